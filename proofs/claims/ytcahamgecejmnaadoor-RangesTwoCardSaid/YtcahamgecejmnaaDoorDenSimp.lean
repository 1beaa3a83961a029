/-
  The steps of the functional reading, bundled. Its conditions: none.
-/
import Derived.Test.YtcahamgecejmnaaDoorDenNat
namespace Go.Den
open Go

theorem den1 {X : Ctx} {π : Key} {α : Type} {F : Env → Heap → Option α} {K : List Fr} {e : Env} {H : Heap} :
    (∀ a b, runL X π F (.c (.seq a b) :: K) e H = runL X π F (.c a :: .c b :: K) e H) ∧
    (runL X π F (.c .skip :: K) e H = runL X π F K e H) ∧
    (∀ l, runL X π F (.c (.reg l) :: K) e H = runL X π F (.ops l :: K) e H) ∧
    (∀ l, runL X π F (.c (.dreg l) :: K) e H = runL X π F (.q l :: K) e H) ∧
    (∀ g a b, runL X π F (.c (.cond g a b) :: K) e H = condL X π F K e H (g.ev X e) a b) ∧
    (∀ id c, runL X π F (.c (.block id c) :: K) e H = runL X π F (.c c :: .blk id :: K) e H) ∧
    (∀ id, runL X π F (.c (.exit id) :: K) e H = outL X π F K e H id) ∧
    (runL X π F (.c .ret :: K) e H = F e H) ∧
    (runL X π F (.c .no :: K) e H = none) ∧
    (∀ id, runL X π F (.blk id :: K) e H = runL X π F K e H) ∧
    (∀ id c, outL X π F (.c c :: K) e H id = outL X π F K e H id) ∧
    (∀ id c n, outL X π F (.it c n :: K) e H id = outL X π F K e H id) ∧
    (∀ id j, outL X π F (.blk j :: K) e H id = if id = j then runL X π F K e H else outL X π F K e H id) ∧
    (runL X π F (.ops [] :: K) e H = runL X π F K e H) ∧
    (runL X π F (.q [] :: K) e H = runL X π F K e H) ∧
    (∀ d i l, runL X π F (.ops (⟨d, none, i⟩ :: l) :: K) e H = stepL X π F K e (stepI X (goL X) π d e H i) d (.ops l)) ∧
    (∀ d i l, runL X π F (.q (⟨d, none, i⟩ :: l) :: K) e H = stepLS X π F K e H (stepQ X (goL X) π d e H i) d (.q l)) ∧
    (∀ d t b i l, runL X π F (.ops (⟨d, some (some t, b), i⟩ :: l) :: K) e H = guardL X π F K e H (e t) b d i l) ∧
    (∀ d t b i l, runL X π F (.q (⟨d, some (some t, b), i⟩ :: l) :: K) e H = guardLS X π F K e H (e t) b d i l) ∧
    (∀ a b, condL X π F K e H (.bool true) a b = runL X π F (.c a :: K) e H) ∧
    (∀ a b, condL X π F K e H (.bool false) a b = runL X π F (.c b :: K) e H) ∧
    (∀ d i l, guardL X π F K e H (.bool true) true d i l = stepL X π F K e (stepI X (goL X) π d e H i) d (.ops l)) ∧
    (∀ d i l, guardL X π F K e H (.bool false) false d i l = stepL X π F K e (stepI X (goL X) π d e H i) d (.ops l)) ∧
    (∀ d i l, guardL X π F K e H (.bool true) false d i l = runL X π F (.ops l :: K) (e.put d .undef) H) ∧
    (∀ d i l, guardL X π F K e H (.bool false) true d i l = runL X π F (.ops l :: K) (e.put d .undef) H) ∧
    (∀ b d i l, guardL X π F K e H .undef b d i l = runL X π F (.ops l :: K) (e.put d .undef) H) ∧
    (∀ d i l, guardLS X π F K e H (.bool true) true d i l = stepLS X π F K e H (stepQ X (goL X) π d e H i) d (.q l)) ∧
    (∀ d i l, guardLS X π F K e H (.bool false) false d i l = stepLS X π F K e H (stepQ X (goL X) π d e H i) d (.q l)) ∧
    (∀ d i l, guardLS X π F K e H (.bool true) false d i l = runL X π F (.q l :: K) (e.put d .undef) H) ∧
    (∀ d i l, guardLS X π F K e H (.bool false) true d i l = runL X π F (.q l :: K) (e.put d .undef) H) ∧
    (∀ b d i l, guardLS X π F K e H .undef b d i l = runL X π F (.q l :: K) (e.put d .undef) H) ∧
    (∀ v d l, stepLS X π F K e H (some v) d l = runL X π F (l :: K) (e.put d v) H) ∧
    (∀ d l, stepLS X π F K e H none d l = none) :=
  ⟨fun _ _ => l_seq, l_skip, fun _ => l_reg, fun _ => l_dreg, fun _ _ _ => l_cond, fun _ _ => l_block, fun _ => l_exit, l_ret, l_no, fun _ => l_blk, fun _ _ => lo_c, fun _ _ _ => lo_it, fun _ _ => lo_blk,
    l_ops_nil, l_q_nil, fun _ _ _ => l_ops, fun _ _ _ => l_q, fun _ _ _ _ _ => l_guard, fun _ _ _ _ _ => l_guardQ, fun _ _ => rfl, fun _ _ => rfl, fun _ _ _ => rfl, fun _ _ _ => rfl, fun _ _ _ => rfl, fun _ _ _ => rfl,
    fun _ _ _ _ => rfl, fun _ _ _ => rfl, fun _ _ _ => rfl, fun _ _ _ => rfl, fun _ _ _ => rfl, fun _ _ _ _ => rfl, fun _ _ _ => rfl, fun _ _ => rfl⟩

theorem den2 {X : Ctx} {π : Key} {α : Type} {F : Env → Heap → Option α} {K : List Fr} {e : Env} :
    (∀ v H' d l, stepL X π F K e (some (v, H')) d l = runL X π F (l :: K) (e.put d v) H') ∧
    (∀ d l, stepL X π F K e none d l = none) := ⟨fun _ _ _ _ => rfl, fun _ _ => rfl⟩
theorem den1s {X : Ctx} {π : Key} {α : Type} {F : Env → Heap → Option α} {K : List Fr} {e : Env} {H : Heap} :
    (∀ l, runL X π F (.c (.ereg l) :: K) e H = runL X π F (.er l 0 [] [] :: K) e H) ∧
    (∀ n T A, runL X π F (.er [] n T A :: K) e H = lastL X π F K e H (apartE T A)) ∧
    (∀ d i fr r n T A, runL X π F (.er (⟨⟨d, none, i⟩, true, fr⟩ :: r) n T A :: K) e H = stepL X π F K e (stepI X (goL X) π d e H i) d (.er r (n + 1) T (logA n (changes X π d e i) A))) ∧
    (∀ d i fr r n T A, runL X π F (.er (⟨⟨d, none, i⟩, false, fr⟩ :: r) n T A :: K) e H = stepLS X π F K e H (stepQ X (goL X) π d e H i) d (.er r (n + 1) (logT fr (touches X e i) T) A)) ∧
    (∀ d t b i f fr r n T A, runL X π F (.er (⟨⟨d, some (some t, b), i⟩, f, fr⟩ :: r) n T A :: K) e H = guardLE X π F K e H (e t) b d i f fr r n T A) ∧
    (∀ d i f fr r n T A, guardLE X π F K e H (.bool true) true d i f fr r n T A = runL X π F (.er (⟨⟨d, none, i⟩, f, fr⟩ :: r) n T A :: K) e H) ∧
    (∀ d i f fr r n T A, guardLE X π F K e H (.bool false) false d i f fr r n T A = runL X π F (.er (⟨⟨d, none, i⟩, f, fr⟩ :: r) n T A :: K) e H) ∧
    (∀ d i f fr r n T A, guardLE X π F K e H (.bool true) false d i f fr r n T A = runL X π F (.er r (n + 1) T A :: K) (e.put d .undef) H) ∧
    (∀ d i f fr r n T A, guardLE X π F K e H (.bool false) true d i f fr r n T A = runL X π F (.er r (n + 1) T A :: K) (e.put d .undef) H) ∧
    (∀ b d i f fr r n T A, guardLE X π F K e H .undef b d i f fr r n T A = runL X π F (.er r (n + 1) T A :: K) (e.put d .undef) H) ∧
    (lastL X π F K e H false = none) ∧
    (lastL X π F K e H true = runL X π F K e H) :=
  ⟨fun _ => l_ereg, fun _ _ _ => l_er_nil, fun _ _ _ _ _ _ _ => l_er_t, fun _ _ _ _ _ _ _ => l_er_f, fun _ _ _ _ _ _ _ _ _ _ => l_er_guard, fun _ _ _ _ _ _ _ _ => rfl, fun _ _ _ _ _ _ _ _ => rfl, fun _ _ _ _ _ _ _ _ => rfl, fun _ _ _ _ _ _ _ _ => rfl, fun _ _ _ _ _ _ _ _ _ => rfl, rfl, rfl⟩
theorem den2s {X : Ctx} {e : Env} :
    (∀ x, touches X e (.mov x) = []) ∧
    (∀ c a b, touches X e (.pick c a b) = []) ∧
    (∀ z p, touches X e (.build z p) = []) ∧
    (∀ s n z p, touches X e (.buildSlice s n z p) = []) ∧
    (∀ x, touches X e (.nilCheck x) = []) ∧
    (∀ o x y, touches X e (.bin o x y) = []) ∧
    (∀ q n x y, touches X e (.eqs q n x y) = []) ∧
    (∀ x, touches X e (.not x) = []) ∧
    (∀ x, touches X e (.neg x) = []) ∧
    (∀ k x, touches X e (.conv k x) = []) ∧
    (∀ f c, touches X e (.mkfn f c) = []) ∧
    (∀ x l h, touches X e (.slstr x l h) = []) ∧
    (∀ o x, touches X e (.fieldAddr o x) = []) ∧
    (∀ o s g x, touches X e (.field o s g x) = []) ∧
    (∀ x i, touches X e (.indexStr x i) = []) ∧
    (∀ x i, touches X e (.extract x i) = []) ∧
    (∀ s x, touches X e (.len s x) = []) ∧
    (∀ l, touches X e (.mx l) = []) ∧
    (∀ l, touches X e (.mn l) = []) ∧
    (∀ t x, touches X e (.mkiface t x) = []) ∧
    (∀ sz g a, touches X e (.load sz g a) = (a.ev X e).keys) ∧
    (∀ f args, touches X e (.call f args) = match f.ev X e with | .fn _ caps => AV.keysL (args.map (·.ev X e) ++ caps) | _ => []) ∧
    (∀ sz x i, touches X e (.indexAddr sz x i) = (x.ev X e).keys) ∧
    (∀ sz x lo hi m, touches X e (.slice sz x lo hi m) = (x.ev X e).keys) := by
  refine ⟨?_, ?_, ?_, ?_, ?_, ?_, ?_, ?_, ?_, ?_, ?_, ?_, ?_, ?_, ?_, ?_, ?_, ?_, ?_, ?_, ?_, ?_, ?_, ?_⟩ <;> (intros; rfl)
theorem den5s {X : Ctx} {π : Key} {e : Env} :
    (∀ d sz x, changes X π (some d) e (.box sz x) = some [d :: π]) ∧
    (∀ d x, changes X π (some d) e (.rng x) = some [d :: π]) ∧
    (∀ d, changes X π (some d) e .mkmap = some [d :: π]) ∧
    (∀ d sz a x, changes X π d e (.store sz a x) = some (a.ev X e).keys) ∧
    (∀ d sz b x y, changes X π (some d) e (.append sz b x y) = match x.ev X e with | .own k _ _ _ => some [k] | _ => some [d :: π]) ∧
    (∀ d x, changes X π d e (.next x) = some (x.ev X e).keys) ∧
    (∀ d q z ok m x, changes X π d e (.lookup q z ok m x) = some []) ∧
    (∀ d q m x v, changes X π d e (.mapSet q m x v) = some (m.ev X e).keys) ∧
    (∀ d f args, changes X π d e (.call f args) = match f.ev X e with | .fn f caps => (match X.wprim f with | some _ => none | none => (if X.shared f = false ∧ AV.pureL (args.map (·.ev X e) ++ caps) = true then some [] else none)) | _ => none) := by
  refine ⟨?_, ?_, ?_, ?_, ?_, ?_, ?_, ?_, ?_⟩ <;> (intros; rfl)
theorem den5t :
    (∀ k v o l, (AV.own k v o l).keys = [k]) ∧
    (∀ k v i j, (AV.ptr k v i j).keys = [k]) ∧
    (∀ k v, (AV.map k v).keys = [k]) ∧
    (∀ cs, (AV.agg cs).keys = AV.keysL cs) ∧
    (∀ cs, (AV.tup cs).keys = AV.keysL cs) ∧
    (∀ f cs, (AV.fn f cs).keys = AV.keysL cs) ∧
    (∀ t v, (AV.iface t v).keys = v.keys) ∧
    (∀ b, (AV.bool b).keys = []) ∧
    (∀ k n, (AV.int k n).keys = []) ∧
    (∀ s, (AV.str s).keys = []) ∧
    (∀ l, (AV.sl l).keys = []) ∧
    (∀ b, (AV.zs b).keys = []) ∧
    (∀ x j, (AV.rp x j).keys = []) ∧
    (AV.nilp.keys = []) ∧
    (AV.nilfn.keys = []) ∧
    (AV.nilmap.keys = []) ∧
    (AV.nilif.keys = []) ∧
    (AV.junk.keys = []) ∧
    (AV.keysL [] = []) ∧
    (∀ v r, AV.keysL (v :: r) = v.keys ++ AV.keysL r) := by
  refine ⟨?_, ?_, ?_, ?_, ?_, ?_, ?_, ?_, ?_, ?_, ?_, ?_, ?_, ?_, ?_, ?_, ?_, ?_, ?_, ?_⟩
  all_goals (intros; simp only [AV.keys, AV.keysL] <;> rfl)
theorem den5u :
    (∀ t T, logT [] t T = T) ∧
    (∀ n fr T, logT (n :: fr) [] T = T) ∧
    (∀ n fr k t T, logT (n :: fr) (k :: t) T = (n :: fr, k :: t) :: T) ∧
    (∀ n A, logA n (some []) A = A) ∧
    (∀ n k ks A, logA n (some (k :: ks)) A = (n, some (k :: ks)) :: A) ∧
    (∀ n A, logA n none A = (n, none) :: A) ∧
    (∀ (b : Bool) n A p, (logA n (if b = true then some [] else none) A).all p = ((b || p (n, none)) && A.all p)) ∧
    (∀ b : Bool, (b || true) = true) ∧
    (∀ T A, apartE T A = T.all fun p => A.all fun q => !(p.1.any fun n => decide (n = q.1)) || apartK p.2 q.2) ∧
    (∀ t, apartK t none = false) ∧
    (∀ t ks, apartK t (some ks) = t.all fun k => ks.all fun k' => !decide (k = k')) ∧
    (∀ {A : Type} (p : A → Bool), [].any p = false) ∧
    (∀ {A : Type} (p : A → Bool) (a : A) (l : List A), (a :: l).any p = (p a || l.any p)) := by
  refine ⟨?_, ?_, ?_, ?_, ?_, ?_, ?_, ?_, ?_, ?_, ?_, ?_, ?_⟩
  all_goals first | (intros; rfl) | (intros; simp only [List.any_nil, List.any_cons]) | (intro b; cases b <;> intros <;> rfl)
theorem den3 {X : Ctx} {π : Key} {α : Type} {F : Env → Heap → Option α} {e : Env} {H : Heap} : runL X π F [] e H = F e H := l_nil

theorem den4 :
    (∀ (e : Env) t v, e.put (some t) v = e.set t v) ∧ (∀ (e : Env) v, e.put none v = e) ∧ (∀ (e : Env) t v s, (e.set t v) s = if s = t then v else e s) ∧
    (∀ (H : Heap) kk v k', (H.set kk v) k' = if k' = kk then v else H k') ∧ (∀ kk, Heap.none kk = (0, none)) ∧
    (∀ (H : Heap) k ver, H.live k ver = if (H k).1 = ver then (H k).2 else none) ∧ (∀ (H : Heap) k b, fresh H k b = H.set k ((H k).1 + 1, some b)) ∧
    (∀ (H : Heap) k ver, freeze H k ver = match H.live k ver with | some b => H.set k (ver, some { b with frz := true }) | none => H) ∧
    (∀ args t, initEnv args t = (args[t]?).getD .undef) := ⟨fun _ _ _ => rfl, fun _ _ => rfl, fun _ _ _ _ => rfl, fun _ _ _ _ => rfl, fun _ => rfl, fun _ _ _ => rfl, fun _ _ _ => rfl, fun _ _ _ => rfl, fun _ _ => rfl⟩

theorem den5 {X : Ctx} {e : Env} : (∀ n, Opd.ev X e (.t n) = e n) ∧ (∀ v, Opd.ev X e (.c v) = v) := ⟨fun _ => rfl, fun _ => rfl⟩

theorem den6 {X : Ctx} {go : Go1} {π : Key} {d : Option Nat} {e : Env} {H : Heap} :
    (∀ x, stepI X go π d e H (.mov x) = some (x.ev X e, H)) ∧
    (∀ c a b, stepI X go π d e H (.pick c a b) = withH H (pickA (c.ev X e) (a.ev X e) (b.ev X e))) ∧
    (∀ sz x, stepI X go π d e H (.box sz x) = boxA π d H sz (x.ev X e)) ∧
    (∀ zero parts, stepI X go π d e H (.build zero parts) = if parts.all (fun p => (p.2.2.ev X e).cells.length == p.2.1 && (p.2.2.ev X e).solid) then
        withH H ((fillA (parts.map fun p => (p.1, (p.2.2.ev X e).cells)) zero).map .agg) else none) ∧
    (∀ sz g a, stepI X go π d e H (.load sz g a) = withH H (loadA H sz g (a.ev X e))) ∧
    (∀ sz a x, stepI X go π d e H (.store sz a x) = match storeA H sz (a.ev X e) (x.ev X e) with | some H => some (.undef, H) | none => none) ∧
    (∀ x, stepI X go π d e H (.nilCheck x) = withH H (nilCheckA (x.ev X e))) ∧
    (∀ op x y, stepI X go π d e H (.bin op x y) = withH H (binA op (x.ev X e) (y.ev X e))) ∧
    (∀ q neg x y, stepI X go π d e H (.eqs q neg x y) = withH H ((eqA q (x.ev X e) (y.ev X e)).map fun b => .bool (if neg then !b else b))) ∧
    (∀ x, stepI X go π d e H (.not x) = withH H (notA (x.ev X e))) ∧
    (∀ x, stepI X go π d e H (.neg x) = withH H (negA (x.ev X e))) ∧
    (∀ k x, stepI X go π d e H (.conv k x) = withH H (convA k (x.ev X e))) ∧
    (∀ f caps, stepI X go π d e H (.mkfn f caps) = some (.fn f (caps.map (·.ev X e)), H)) ∧
    (∀ x lo hi, stepI X go π d e H (.slstr x lo hi) = withH H (slstrA (x.ev X e) (lo.map (·.ev X e)) (hi.map (·.ev X e)))) ∧
    (∀ sz x lo hi, stepI X go π d e H (.slice sz x lo hi none) = withH H (sliceA H sz (x.ev X e) (lo.map (·.ev X e)) (hi.map (·.ev X e)))) ∧
    (∀ sz x lo hi m, stepI X go π d e H (.slice sz x lo hi (some m)) = if zero3 (m.ev X e) (hi.map (·.ev X e)) (lo.map (·.ev X e)) then withH H (slice3A (x.ev X e)) else none) ∧
    (∀ off x, stepI X go π d e H (.fieldAddr off x) = withH H (fieldAddrA off (x.ev X e))) ∧
    (∀ off sz g x, stepI X go π d e H (.field off sz g x) = withH H (fieldA off sz g (x.ev X e))) ∧
    (∀ sz x i, stepI X go π d e H (.indexAddr sz x i) = withH H (indexAddrA H sz (x.ev X e) (i.ev X e))) ∧
    (∀ x i, stepI X go π d e H (.indexStr x i) = withH H (indexStrA (x.ev X e) (i.ev X e))) ∧
    (∀ x i, stepI X go π d e H (.extract x i) = withH H (extractA i (x.ev X e))) ∧
    (∀ s x, stepI X go π d e H (.len s x) = withH H ((lenA s (x.ev X e)).map fun (n : Nat) => AV.int .i64 (n : Int))) ∧
    (∀ xs, stepI X go π d e H (.mx xs) = withH H (foldArgs maxA (xs.map (·.ev X e)))) ∧
    (∀ xs, stepI X go π d e H (.mn xs) = withH H (foldArgs minA (xs.map (·.ev X e)))) ∧
    (∀ t x, stepI X go π d e H (.mkiface t x) = some (.iface t (x.ev X e), H)) ∧
    (∀ f args, stepI X go π d e H (.call f args) = match f.ev X e with | .fn f caps => callArgs X go f (args.map (·.ev X e) ++ caps) (d.getD 9999 :: π) H | _ => none) ∧
    (stepI X go π d e H .no = none) ∧
    (∀ x, stepQ X go π d e H (.mov x) = some (x.ev X e)) ∧
    (∀ c a b, stepQ X go π d e H (.pick c a b) = pickA (c.ev X e) (a.ev X e) (b.ev X e)) ∧
    (∀ zero parts, stepQ X go π d e H (.build zero parts) = if parts.all (fun p => (p.2.2.ev X e).cells.length == p.2.1 && (p.2.2.ev X e).solid) then
        ((fillA (parts.map fun p => (p.1, (p.2.2.ev X e).cells)) zero).map .agg) else none) ∧
    (∀ sz g a, stepQ X go π d e H (.load sz g a) = loadA H sz g (a.ev X e)) ∧
    (∀ x, stepQ X go π d e H (.nilCheck x) = nilCheckA (x.ev X e)) ∧
    (∀ op x y, stepQ X go π d e H (.bin op x y) = binA op (x.ev X e) (y.ev X e)) ∧
    (∀ q neg x y, stepQ X go π d e H (.eqs q neg x y) = ((eqA q (x.ev X e) (y.ev X e)).map fun b => .bool (if neg then !b else b))) ∧
    (∀ x, stepQ X go π d e H (.not x) = notA (x.ev X e)) ∧
    (∀ x, stepQ X go π d e H (.neg x) = negA (x.ev X e)) ∧
    (∀ k x, stepQ X go π d e H (.conv k x) = convA k (x.ev X e)) ∧
    (∀ f caps, stepQ X go π d e H (.mkfn f caps) = some (.fn f (caps.map (·.ev X e)))) ∧
    (∀ x lo hi, stepQ X go π d e H (.slstr x lo hi) = slstrA (x.ev X e) (lo.map (·.ev X e)) (hi.map (·.ev X e))) ∧
    (∀ sz x lo hi, stepQ X go π d e H (.slice sz x lo hi none) = sliceA H sz (x.ev X e) (lo.map (·.ev X e)) (hi.map (·.ev X e))) ∧
    (∀ off x, stepQ X go π d e H (.fieldAddr off x) = fieldAddrA off (x.ev X e)) ∧
    (∀ off sz g x, stepQ X go π d e H (.field off sz g x) = fieldA off sz g (x.ev X e)) ∧
    (∀ sz x i, stepQ X go π d e H (.indexAddr sz x i) = indexAddrA H sz (x.ev X e) (i.ev X e)) ∧
    (∀ x i, stepQ X go π d e H (.indexStr x i) = indexStrA (x.ev X e) (i.ev X e)) ∧
    (∀ x i, stepQ X go π d e H (.extract x i) = extractA i (x.ev X e)) ∧
    (∀ s x, stepQ X go π d e H (.len s x) = ((lenA s (x.ev X e)).map fun (n : Nat) => AV.int .i64 (n : Int))) ∧
    (∀ xs, stepQ X go π d e H (.mx xs) = foldArgs maxA (xs.map (·.ev X e))) ∧
    (∀ xs, stepQ X go π d e H (.mn xs) = foldArgs minA (xs.map (·.ev X e))) ∧
    (∀ t x, stepQ X go π d e H (.mkiface t x) = some (.iface t (x.ev X e))) ∧
    (∀ f args, stepQ X go π d e H (.call f args) = match f.ev X e with | .fn f caps => callQ X go f (args.map (·.ev X e) ++ caps) H | _ => none) ∧
    (stepQ X go π d e H .no = none) := by
  have hv : ∀ o : Option AV, valueOf (withH H o) = o := fun o => by cases o <;> rfl
  refine ⟨?_, ?_, ?_, ?_, ?_, ?_, ?_, ?_, ?_, ?_, ?_, ?_, ?_, ?_, ?_, ?_, ?_, ?_, ?_, ?_, ?_, ?_, ?_, ?_, ?_, ?_, ?_, ?_, ?_, ?_, ?_, ?_, ?_, ?_, ?_, ?_, ?_, ?_, ?_, ?_, ?_, ?_, ?_, ?_, ?_, ?_, ?_, ?_, ?_, ?_, ?_⟩
  all_goals first
    | (intros; rfl)
    | (intros; exact hv _)
    | (intros; simp only [stepQ, stepI]; split <;> first | exact hv _ | rfl)
theorem den6b {X : Ctx} {go : Go1} {π : Key} {d : Nat} {e : Env} {H : Heap} :
    (∀ sz bytes x y, stepI X go π (some d) e H (.append sz bytes x y) = appendA π d sz bytes H (x.ev X e) (y.ev X e)) ∧
    (∀ sz len zero parts, stepI X go π (some d) e H (.buildSlice sz len zero parts) = if parts.all (fun p => (p.2.ev X e).cells.length == sz && (p.2.ev X e).pure && (p.2.ev X e).solid && p.1 < len) then
        some (.own (d :: π) ((H (d :: π)).1 + 1) 0 len, fresh H (d :: π) ⟨false, true, sz, parts.foldl (fun es p => es.set p.1 (p.2.ev X e).norm) (List.replicate len zero)⟩) else none) ∧
    (∀ sz len zero parts, stepQ X go π (some d) e H (.buildSlice sz len zero parts) = if parts.all (fun p => (p.2.ev X e).cells.length == sz && (p.2.ev X e).pure && (p.2.ev X e).solid && p.1 < len) then
        some (.sl (parts.foldl (fun es p => es.set p.1 (p.2.ev X e).norm) (List.replicate len zero))) else none) := by
  refine ⟨fun _ _ _ _ => rfl, fun _ _ _ _ => rfl, fun _ _ _ _ => ?_⟩
  simp only [stepQ, Option.isSome_some, true_and]
theorem den7 {H : Heap} : (∀ v, withH H (some v) = some (v, H)) ∧ (withH H none = none) := ⟨fun _ => rfl, rfl⟩
/-- What comes back of a call. -/
def ansR (o : Option AV) (H1 H2 : Heap) : Option (AV × Heap) := match o with | some r => (if r.flat then some (r, H1) else some (r, H2)) | none => none
def ansQ (o : Option AV) (p : Bool) : Option AV := match o with | some r => (if r.flat || p then some r else none) | none => none
theorem den7b {X : Ctx} {go : Go1} {f : Nat} {a : List AV} {H : Heap} {π : Key} :
    (callArgs X go f a π H = match X.wprim f with | some q => q π a H | none => if X.shared f then go f a π H else match snapL H a with
      | some as => ansR (ansA X go f as) H (killL H a)
      | none => go f a π H) := rfl
theorem den7c {X : Ctx} {go : Go1} {f : Nat} {a : List AV} {H : Heap} :
    (callQ X go f a H = match X.wprim f with | some _ => none | none => if X.shared f then none else match snapL H a with
      | some as => ansQ (ansA X go f as) (AV.pureL a)
      | none => none) := rfl
theorem den7d : (∀ r H1 H2, ansR (some r) H1 H2 = if r.flat then some (r, H1) else some (r, H2)) ∧ (∀ H1 H2, ansR none H1 H2 = none) ∧ (∀ r p, ansQ (some r) p = if r.flat || p then some r else none) ∧ (∀ p, ansQ none p = none) := ⟨fun _ _ _ => rfl, fun _ _ => rfl, fun _ _ => rfl, fun _ => rfl⟩
theorem ans_eq {X : Ctx} {f : Nat} {a : List AV} : ansA X (goL X) f a = ansL X f a := rfl

theorem den8 {H : Heap} :
    (∀ b, snap H (.bool b) = some (.bool b)) ∧ (∀ k n, snap H (.int k n) = some (.int k n)) ∧ (∀ s, snap H (.str s) = some (.str s)) ∧ (∀ l, snap H (.sl l) = some (.sl l)) ∧ (∀ b, snap H (.zs b) = some (.sl [])) ∧
    (∀ k v o l, snap H (.own k v o l) = frozen1 H k v o l) ∧ (∀ e j, snap H (.rp e j) = some (.rp e j)) ∧ (∀ k v i j, snap H (.ptr k v i j) = none) ∧ (∀ k v, snap H (.map k v) = none) ∧
    (snap H .nilp = some .nilp) ∧ (snap H .nilfn = some .nilfn) ∧ (snap H .nilmap = some .nilmap) ∧ (snap H .nilif = some .nilif) ∧ (snap H .junk = some .junk) ∧
    (∀ cs, snap H (.agg cs) = match snapL H cs with | some cs => some (.agg cs) | none => none) ∧ (∀ cs, snap H (.tup cs) = match snapL H cs with | some cs => some (.tup cs) | none => none) ∧
    (∀ f cs, snap H (.fn f cs) = match snapL H cs with | some cs => some (.fn f cs) | none => none) ∧ (∀ t v, snap H (.iface t v) = match snap H v with | some v => some (.iface t v) | none => none) ∧
    (snapL H [] = some []) ∧ (∀ v r, snapL H (v :: r) = match snap H v, snapL H r with | some v, some r => some (v :: r) | _, _ => none) ∧
    (∀ k v o l, frozen1 H k v o l = match H.live k v with | some b => (if b.still then some (.sl ((b.es.drop o).take l)) else none) | none => none) ∧
    (∀ b, kill H (.bool b) = H) ∧ (∀ k n, kill H (.int k n) = H) ∧ (∀ s, kill H (.str s) = H) ∧ (∀ l, kill H (.sl l) = H) ∧ (∀ b, kill H (.zs b) = H) ∧ (∀ e j, kill H (.rp e j) = H) ∧
    (kill H .nilp = H) ∧ (kill H .nilfn = H) ∧ (kill H .nilmap = H) ∧ (kill H .nilif = H) ∧ (kill H .junk = H) ∧
    (∀ k v o l, kill H (.own k v o l) = freeze H k v) ∧ (∀ cs, kill H (.agg cs) = killL H cs) ∧ (∀ cs, kill H (.tup cs) = killL H cs) ∧ (∀ f cs, kill H (.fn f cs) = killL H cs) ∧ (∀ t v, kill H (.iface t v) = kill H v) ∧
    (killL H [] = H) ∧ (∀ v r, killL H (v :: r) = killL (kill H v) r) := by
  refine ⟨?_, ?_, ?_, ?_, ?_, ?_, ?_, ?_, ?_, ?_, ?_, ?_, ?_, ?_, ?_, ?_, ?_, ?_, ?_, ?_, ?_, ?_, ?_, ?_, ?_, ?_, ?_, ?_, ?_, ?_, ?_, ?_, ?_, ?_, ?_, ?_, ?_, ?_, ?_⟩
  all_goals (intros; simp only [snap, snapL, kill, killL, frozen1] <;> rfl)

theorem den9 :
    (∀ cs, (AV.agg cs).cells = cs) ∧ (∀ b, (AV.bool b).cells = [.bool b]) ∧ (∀ k n, (AV.int k n).cells = [.int k n]) ∧ (∀ s, (AV.str s).cells = [.str s]) ∧ (∀ l, (AV.sl l).cells = [.sl l]) ∧ (∀ b, (AV.zs b).cells = [.zs b]) ∧
    (∀ k v o l, (AV.own k v o l).cells = [.own k v o l]) ∧ (∀ e j, (AV.rp e j).cells = [.rp e j]) ∧ (∀ k v i j, (AV.ptr k v i j).cells = [.ptr k v i j]) ∧ (AV.nilp.cells = [.nilp]) ∧ (∀ f c, (AV.fn f c).cells = [.fn f c]) ∧
    (AV.nilfn.cells = [.nilfn]) ∧ (∀ k v, (AV.map k v).cells = [.map k v]) ∧ (AV.nilmap.cells = [.nilmap]) ∧ (∀ t v, (AV.iface t v).cells = [.iface t v]) ∧ (AV.nilif.cells = [.nilif]) ∧
    (∀ cs, (AV.agg cs).solid = true) ∧ (∀ b, (AV.bool b).solid = true) ∧ (∀ k n, (AV.int k n).solid = true) ∧ (∀ s, (AV.str s).solid = true) ∧ (∀ l, (AV.sl l).solid = true) ∧ (∀ b, (AV.zs b).solid = true) ∧
    (∀ k v o l, (AV.own k v o l).solid = true) ∧ (∀ e j, (AV.rp e j).solid = true) ∧ (∀ k v i j, (AV.ptr k v i j).solid = true) ∧ (AV.nilp.solid = true) ∧ (∀ f c, (AV.fn f c).solid = true) ∧
    (AV.nilfn.solid = true) ∧ (∀ k v, (AV.map k v).solid = true) ∧ (AV.nilmap.solid = true) ∧ (∀ t v, (AV.iface t v).solid = true) ∧ (AV.nilif.solid = true) :=
  ⟨fun _ => rfl, fun _ => rfl, fun _ _ => rfl, fun _ => rfl, fun _ => rfl, fun _ => rfl, fun _ _ _ _ => rfl, fun _ _ => rfl, fun _ _ _ _ => rfl, rfl, fun _ _ => rfl, rfl, fun _ _ => rfl, rfl, fun _ _ => rfl, rfl,
   fun _ => rfl, fun _ => rfl, fun _ _ => rfl, fun _ => rfl, fun _ => rfl, fun _ => rfl, fun _ _ _ _ => rfl, fun _ _ => rfl, fun _ _ _ _ => rfl, rfl, fun _ _ => rfl, rfl, fun _ _ => rfl, rfl, fun _ _ => rfl, rfl⟩
theorem den10 :
    (∀ cs, (AV.agg cs).pure = AV.pureL cs) ∧ (∀ b, (AV.bool b).pure = true) ∧ (∀ k n, (AV.int k n).pure = true) ∧ (∀ s, (AV.str s).pure = true) ∧ (∀ l, (AV.sl l).pure = true) ∧ (∀ b, (AV.zs b).pure = true) ∧
    (∀ k v o l, (AV.own k v o l).pure = false) ∧ (∀ e j, (AV.rp e j).pure = true) ∧ (∀ k v i j, (AV.ptr k v i j).pure = false) ∧ (AV.nilp.pure = true) ∧ (∀ f c, (AV.fn f c).pure = AV.pureL c) ∧
    (AV.nilfn.pure = true) ∧ (∀ k v, (AV.map k v).pure = false) ∧ (AV.nilmap.pure = true) ∧ (∀ t v, (AV.iface t v).pure = v.pure) ∧ (AV.nilif.pure = true) ∧ (AV.junk.pure = true) ∧ (∀ cs, (AV.tup cs).pure = AV.pureL cs) ∧
    (AV.pureL [] = true) ∧ (∀ v r, AV.pureL (v :: r) = (v.pure && AV.pureL r)) ∧
    (∀ cs, (AV.agg cs).flat = AV.flatL cs) ∧ (∀ b, (AV.bool b).flat = true) ∧ (∀ k n, (AV.int k n).flat = true) ∧ (∀ s, (AV.str s).flat = true) ∧ (∀ l, (AV.sl l).flat = false) ∧ (∀ b, (AV.zs b).flat = false) ∧
    (∀ k v o l, (AV.own k v o l).flat = false) ∧ (∀ e j, (AV.rp e j).flat = false) ∧ (∀ k v i j, (AV.ptr k v i j).flat = false) ∧ (AV.nilp.flat = true) ∧ (∀ f c, (AV.fn f c).flat = false) ∧
    (AV.nilfn.flat = true) ∧ (∀ k v, (AV.map k v).flat = false) ∧ (AV.nilmap.flat = true) ∧ (∀ t v, (AV.iface t v).flat = v.flat) ∧ (AV.nilif.flat = true) ∧ (AV.junk.flat = true) ∧ (∀ cs, (AV.tup cs).flat = AV.flatL cs) ∧
    (AV.flatL [] = true) ∧ (∀ v r, AV.flatL (v :: r) = (v.flat && AV.flatL r)) ∧
    (∀ cs, (AV.agg cs).norm = .agg (AV.normL cs)) ∧ (∀ b, (AV.bool b).norm = .bool b) ∧ (∀ k n, (AV.int k n).norm = .int k n) ∧ (∀ s, (AV.str s).norm = .str s) ∧ (∀ l, (AV.sl l).norm = .sl l) ∧ (∀ b, (AV.zs b).norm = .sl []) ∧
    (∀ e j, (AV.rp e j).norm = .rp e j) ∧ (AV.nilp.norm = .nilp) ∧ (∀ f c, (AV.fn f c).norm = .fn f (AV.normL c)) ∧
    (AV.nilfn.norm = .nilfn) ∧ (AV.nilmap.norm = .nilmap) ∧ (∀ t v, (AV.iface t v).norm = .iface t v.norm) ∧ (AV.nilif.norm = .nilif) ∧
    (AV.normL [] = []) ∧ (∀ v r, AV.normL (v :: r) = v.norm :: AV.normL r) := by
  refine ⟨?_, ?_, ?_, ?_, ?_, ?_, ?_, ?_, ?_, ?_, ?_, ?_, ?_, ?_, ?_, ?_, ?_, ?_, ?_, ?_, ?_, ?_, ?_, ?_, ?_, ?_, ?_, ?_, ?_, ?_, ?_, ?_, ?_, ?_, ?_, ?_, ?_, ?_, ?_, ?_, ?_, ?_, ?_, ?_, ?_, ?_, ?_, ?_, ?_, ?_, ?_, ?_, ?_, ?_, ?_⟩
  all_goals (intros; simp only [AV.pure, AV.pureL, AV.flat, AV.flatL, AV.norm, AV.normL] <;> rfl)

theorem den11 :
    (∀ t a b, pickA (.bool t) a b = some (if t then a else b)) ∧ (∀ k v i j, nilCheckA (.ptr k v i j) = some (.ptr k v i j)) ∧ (∀ a j, nilCheckA (.rp a j) = some (.rp a j)) ∧ (∀ f c, nilCheckA (.fn f c) = some (.fn f c)) ∧ (nilCheckA .nilp = none) ∧
    (∀ b, notA (.bool b) = some (.bool (!b))) ∧ (∀ k n, negA (.int k n) = some (.int k (k.wrap (0 - n)))) ∧ (∀ k k' n, convA k (.int k' n) = some (.int k (k.wrap n))) ∧
    (∀ off k v i j, fieldAddrA off (.ptr k v i j) = some (.ptr k v i (j + off))) ∧ (∀ off a j, fieldAddrA off (.rp a j) = some (.rp a (j + off))) ∧
    (∀ off sz g cs, fieldA off sz g (.agg cs) = partA cs off sz g) ∧ (∀ cs off sz, partA cs off sz true = if off + sz ≤ cs.length then some (.agg ((cs.drop off).take sz)) else none) ∧ (∀ cs off sz, partA cs off sz false = cs[off]?) ∧
    (∀ i vs, extractA i (.tup vs) = vs[i]?) ∧ (∀ s, lenA true (.str s) = some s.length) ∧ (∀ l, lenA false (.sl l) = some l.length) ∧ (∀ nl, lenA false (.zs nl) = some 0) ∧ (∀ k v o n, lenA false (.own k v o n) = some n) ∧
    (∀ f x r, foldArgs f (x :: r) = foldA f x r) ∧ (∀ f x, foldA f x [] = some x) ∧ (∀ f x y r, foldA f x (y :: r) = match f x y with | some z => foldA f z r | none => none) ∧
    (∀ k x y, maxA (.int k x) (.int k y) = some (.int k (if x < y then y else x))) ∧ (∀ k x y, minA (.int k x) (.int k y) = some (.int k (if y < x then y else x))) ∧
    (∀ H e j, elemAt H (.rp e j) = some (e, j)) ∧ (∀ H k ver i j, elemAt H (.ptr k ver i j) = match H.live k ver with | some b => (match b.es[i]? with | some e => some (e, j) | none => none) | none => none) ∧
    (∀ H sz g a, loadA H sz g a = match elemAt H a with | some (e, j) => partA e.cells j sz g | none => none) ∧
    (∀ H sz k ver i j x, storeA H sz (.ptr k ver i j) x = match H.live k ver with
      | some b => (match b.es[i]? with
        | some e => (if b.frz = false ∧ x.cells.length = sz ∧ x.solid = true ∧ j + sz ≤ e.cells.length ∧ (b.still = true → x.pure = true) then
            some (H.set k (ver, some { b with es := b.es.set i (like e (setFrom e.cells j (if b.still then x.norm else x).cells)) })) else none)
        | none => none)
      | none => none) ∧
    (∀ cs off xs, setFrom cs off xs = cs.take off ++ xs ++ cs.drop (off + xs.length)) ∧ (∀ a cs, like (.agg a) cs = .agg cs) ∧ (∀ k n cs, like (.int k n) cs = cs.headD .undef) ∧ (∀ n cs, like (.bool n) cs = cs.headD .undef) ∧ (∀ n cs, like (.str n) cs = cs.headD .undef) ∧
    (∀ n cs, like (.sl n) cs = cs.headD .undef) ∧ (∀ n cs, like (.zs n) cs = cs.headD .undef) ∧ (∀ k v o l cs, like (.own k v o l) cs = cs.headD .undef) ∧ (∀ f c cs, like (.fn f c) cs = cs.headD .undef) ∧ (∀ cs, like .nilfn cs = cs.headD .undef) ∧
    (∀ cs, like .nilp cs = cs.headD .undef) ∧ (∀ k v i j cs, like (.ptr k v i j) cs = cs.headD .undef) ∧ (∀ e j cs, like (.rp e j) cs = cs.headD .undef) ∧
    (∀ cs, fillA [] cs = some cs) ∧ (∀ off xs r cs, fillA ((off, xs) :: r) cs = if off + xs.length ≤ cs.length then fillA r (setFrom cs off xs) else none) ∧
    (∀ π d H sz x, boxA π (some d) H sz x = if x.cells.length = sz ∧ x.solid = true ∧ 0 < sz then some (.ptr (d :: π) ((H (d :: π)).1 + 1) 0 0, fresh H (d :: π) ⟨false, false, sz, [x]⟩) else none) ∧
    (∀ H sz nl, elems H sz (.zs nl) = some []) ∧ (∀ H sz l, elems H sz (.sl l) = if AV.sized sz l then some l else none) ∧
    (∀ H sz k ver off len, elems H sz (.own k ver off len) = match H.live k ver with | some b => (if b.sz = sz ∧ b.still = true then some ((b.es.drop off).take len) else none) | none => none) ∧
    (∀ sz, AV.sized sz [] = true) ∧ (∀ sz v l, AV.sized sz (v :: l) = (v.cells.length == sz && AV.sized sz l)) := by
  refine ⟨?_, ?_, ?_, ?_, ?_, ?_, ?_, ?_, ?_, ?_, ?_, ?_, ?_, ?_, ?_, ?_, ?_, ?_, ?_, ?_, ?_, ?_, ?_, ?_, ?_, ?_, ?_, ?_, ?_, ?_, ?_, ?_, ?_, ?_, ?_, ?_, ?_, ?_, ?_, ?_, ?_, ?_, ?_, ?_, ?_, ?_, ?_, ?_⟩
  all_goals first
    | (intros; rfl)
    | (intros; simp only [maxA, minA, if_true] <;> rfl)
    | (intros; simp only [AV.sized, List.all_nil, List.all_cons])
theorem den12 :
    (∀ k a b, binA .add (.int k a) (.int k b) = some (.int k (k.wrap (a + b)))) ∧ (∀ k a b, binA .sub (.int k a) (.int k b) = some (.int k (k.wrap (a - b)))) ∧ (∀ k a b, binA .mul (.int k a) (.int k b) = some (.int k (k.wrap (a * b)))) ∧
    (∀ k a b, binA .quo (.int k a) (.int k b) = if b = 0 then none else some (.int k (k.wrap (a.tdiv b)))) ∧ (∀ k a b, binA .rem (.int k a) (.int k b) = if b = 0 then none else some (.int k (a.tmod b))) ∧
    (∀ k a b, binA .and (.int k a) (.int k b) = some (.int k (k.wrap (BitVec.ofInt k.bits a &&& BitVec.ofInt k.bits b).toNat))) ∧ (∀ k a b, binA .or (.int k a) (.int k b) = some (.int k (k.wrap (BitVec.ofInt k.bits a ||| BitVec.ofInt k.bits b).toNat))) ∧
    (∀ k a b, binA .xor (.int k a) (.int k b) = some (.int k (k.wrap (BitVec.ofInt k.bits a ^^^ BitVec.ofInt k.bits b).toNat))) ∧
    (∀ k a b, binA .eql (.int k a) (.int k b) = some (.bool (decide (a = b)))) ∧ (∀ k a b, binA .neq (.int k a) (.int k b) = some (.bool (!decide (a = b)))) ∧ (∀ k a b, binA .lss (.int k a) (.int k b) = some (.bool (decide (a < b)))) ∧
    (∀ k a b, binA .leq (.int k a) (.int k b) = some (.bool (decide (a ≤ b)))) ∧ (∀ k a b, binA .gtr (.int k a) (.int k b) = some (.bool (decide (b < a)))) ∧ (∀ k a b, binA .geq (.int k a) (.int k b) = some (.bool (decide (b ≤ a)))) ∧
    (∀ k k' a b, binA .shl (.int k a) (.int k' b) = shiftA .shl k a b) ∧ (∀ k k' a b, binA .shr (.int k a) (.int k' b) = shiftA .shr k a b) ∧
    (∀ k a b, shiftA .shl k a b = if b < 0 then none else some (.int k (k.wrap (a * 2 ^ (min b.toNat k.bits))))) ∧ (∀ k a b, shiftA .shr k a b = if b < 0 then none else some (.int k (a.fdiv (2 ^ (min b.toNat k.bits))))) ∧
    (∀ a b, binA .add (.str a) (.str b) = if a.length + b.length < 2 ^ 63 then some (.str (a ++ b)) else none) ∧ (∀ a b, binA .eql (.str a) (.str b) = some (.bool (a == b))) ∧ (∀ a b, binA .neq (.str a) (.str b) = some (.bool (!(a == b)))) ∧
    (∀ a b, binA .lss (.str a) (.str b) = some (.bool (Op.bytesLess a b))) ∧ (∀ a b, binA .gtr (.str a) (.str b) = some (.bool (!(Op.bytesLess a b || a == b)))) ∧
    (∀ l a b, eqA (.cells l) (.agg a) (.agg b) = cellsEq l a b) ∧ (∀ a b, eqA .bool (.bool a) (.bool b) = some (a == b)) ∧
    (eqA .ptr .nilp .nilp = some true) ∧ (∀ k v i j, eqA .ptr (.ptr k v i j) .nilp = some false) ∧ (∀ e j, eqA .ptr (.rp e j) .nilp = some false) ∧
    (eqA .func .nilfn .nilfn = some true) ∧ (∀ f c, eqA .func (.fn f c) .nilfn = some false) ∧ (eqA .iface .nilif .nilif = some true) ∧ (∀ t v, eqA .iface (.iface t v) .nilif = some false) ∧
    (∀ a b, cellsEq [] a b = some true) ∧ (∀ k l a r b s, cellsEq (k :: l) (a :: r) (b :: s) = match scalEq k a b, cellsEq l r s with | some x, some y => some (x && y) | _, _ => none) ∧
    (∀ k a b, scalEq .int (.int k a) (.int k b) = some (decide (a = b))) ∧ (∀ a b, scalEq .str (.str a) (.str b) = some (a == b)) ∧ (∀ a b, scalEq .bool (.bool a) (.bool b) = some (a == b)) := by
  refine ⟨?_, ?_, ?_, ?_, ?_, ?_, ?_, ?_, ?_, ?_, ?_, ?_, ?_, ?_, ?_, ?_, ?_, ?_, ?_, ?_, ?_, ?_, ?_, ?_, ?_, ?_, ?_, ?_, ?_, ?_, ?_, ?_, ?_, ?_, ?_, ?_, ?_⟩
  all_goals first
    | (intros; rfl)
    | (intros; simp only [binA, intA, if_true] <;> rfl)
    | (intros; simp only [scalEq, if_true])
theorem den13 {e : Env} {H : Heap} :
    (∀ rs, finS rs e H = match result ⟨e, H⟩ rs with | some v => snap H v | none => none) ∧ (∀ rs, finH rs e H = match result ⟨e, H⟩ rs with | some v => some (v, H) | none => none) ∧
    (result ⟨e, H⟩ [] = some (.tup [])) ∧ (∀ r, result ⟨e, H⟩ [r] = result1 ⟨e, H⟩ r) ∧ (∀ a b r, result ⟨e, H⟩ (a :: b :: r) = match resultL ⟨e, H⟩ (a :: b :: r) with | some vs => some (.tup vs) | none => none) ∧
    (resultL ⟨e, H⟩ [] = some []) ∧ (∀ r l, resultL ⟨e, H⟩ (r :: l) = match result1 ⟨e, H⟩ r, resultL ⟨e, H⟩ l with | some v, some vs => some (v :: vs) | _, _ => none) ∧
    (∀ n, result1 ⟨e, H⟩ (.t n) = some (e n)) ∧ (∀ n sz g, result1 ⟨e, H⟩ (.cell n sz g) = loadA H sz g (e n)) := by
  refine ⟨fun _ => rfl, fun _ => rfl, rfl, fun r => ?_, fun a b r => ?_, rfl, fun _ _ => rfl, fun _ => rfl, fun _ _ _ => rfl⟩
  · simp only [result, resultL]
    cases result1 ⟨e, H⟩ r <;> rfl
  · simp only [result]
    cases h : resultL ⟨e, H⟩ (a :: b :: r) with
    | none => rfl
    | some vs =>
      simp only [resultL] at h
      split at h
      · rename_i v vs' _ h2
        obtain rfl := Option.some.inj h
        split at h2
        · obtain rfl := Option.some.inj h2; rfl
        · cases h2
      · cases h
end Go.Den
