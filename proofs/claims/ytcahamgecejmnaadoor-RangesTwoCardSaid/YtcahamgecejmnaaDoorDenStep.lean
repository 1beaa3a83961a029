/-
  The functional reading, step by step, by equations: a stack of code, the temporaries, the blocks. Its conditions: none.
-/
import Derived.Test.YtcahamgecejmnaaDoorDen
namespace Go.Den
open Go

inductive Fr where
  | c (c : C)
  | ops (l : List Ins)
  | q (l : List Ins)
  | er (r : List EIns) (n : Nat) (T : LogT) (A : LogA)
  | blk (id : Nat)
  | it (c : C) (n : Nat)

section
variable (X : Ctx) (go : Nat → List AV → Key → Heap → Option (AV × Heap)) (k : Nat) (π : Key) {α : Type} (F : Env → Heap → Option α)

def runK : List Fr → Option (Ex × St) → Option α
  | [], some (.normal, s) => F s.env s.H
  | [], some (.ret, s) => F s.env s.H
  | [], _ => none
  | .c c :: K, some (.normal, s) => runK K (exec X go k π c s)
  | .ops l :: K, some (.normal, s) => runK K (exec X go k π (.reg l) s)
  | .q l :: K, some (.normal, s) => runK K (exec X go k π (.dreg l) s)
  | .er r n T A :: K, some (.normal, s) => runK K (match doneE (runE X go π r n s.env s.H T A) with | some s => some (.normal, s) | none => none)
  | .it c n :: K, some (.normal, s) => runK K (iter (exec X go k π c) n s)
  | .blk id :: K, some (.exit j, s) => runK K (if j = id then some (.normal, s) else some (.exit j, s))
  | _ :: K, r => runK K r

def run (K : List Fr) (e : Env) (H : Heap) : Option α := runK X go k π F K (some (.normal, ⟨e, H⟩))
def outR (id : Nat) (K : List Fr) (e : Env) (H : Heap) : Option α := runK X go k π F K (some (.exit id, ⟨e, H⟩))
def condR (v : AV) (a b : C) (K : List Fr) (e : Env) (H : Heap) : Option α := match v with
  | .bool t => if t then run X go k π F (.c a :: K) e H else run X go k π F (.c b :: K) e H
  | _ => none
def stepR (r : Option (AV × Heap)) (d : Option Nat) (l : List Ins) (K : List Fr) (e : Env) : Option α := match r with
  | some (v, H) => run X go k π F (.ops l :: K) (e.put d v) H
  | none => none
def stepS (r : Option AV) (d : Option Nat) (l : List Ins) (K : List Fr) (e : Env) (H : Heap) : Option α := match r with
  | some v => run X go k π F (.q l :: K) (e.put d v) H
  | none => none
def guardR (v : AV) (b : Bool) (d : Option Nat) (i : I) (l : List Ins) (K : List Fr) (e : Env) (H : Heap) : Option α := match v with
  | .bool x => if x = b then stepR X go k π F (stepI X go π d e H i) d l K e else run X go k π F (.ops l :: K) (e.put d .undef) H
  | .tup _ => run X go k π F (.ops l :: K) (e.put d .undef) H
  | _ => none
def guardS (v : AV) (b : Bool) (d : Option Nat) (i : I) (l : List Ins) (K : List Fr) (e : Env) (H : Heap) : Option α := match v with
  | .bool x => if x = b then stepS X go k π F (stepQ X go π d e H i) d l K e H else run X go k π F (.q l :: K) (e.put d .undef) H
  | .tup _ => run X go k π F (.q l :: K) (e.put d .undef) H
  | _ => none

variable {X go k π F}

theorem runK_none : ∀ (K : List Fr), runK X go k π F K none = none
  | [] => rfl
  | .c _ :: K => by simp only [runK]; exact runK_none K
  | .ops _ :: K => by simp only [runK]; exact runK_none K
  | .q _ :: K => by simp only [runK]; exact runK_none K
  | .er _ _ _ _ :: K => by simp only [runK]; exact runK_none K
  | .it _ _ :: K => by simp only [runK]; exact runK_none K
  | .blk _ :: K => by simp only [runK]; exact runK_none K
theorem runK_ret : ∀ (K : List Fr) (s : St), runK X go k π F K (some (.ret, s)) = F s.env s.H
  | [], s => rfl
  | .c _ :: K, s => by simp only [runK]; exact runK_ret K s
  | .ops _ :: K, s => by simp only [runK]; exact runK_ret K s
  | .q _ :: K, s => by simp only [runK]; exact runK_ret K s
  | .er _ _ _ _ :: K, s => by simp only [runK]; exact runK_ret K s
  | .it _ _ :: K, s => by simp only [runK]; exact runK_ret K s
  | .blk _ :: K, s => by simp only [runK]; exact runK_ret K s

variable {K : List Fr} {e : Env} {H : Heap}

theorem run_nil : run X go k π F [] e H = F e H := rfl
theorem run_seq {a b : C} : run X go k π F (.c (.seq a b) :: K) e H = run X go k π F (.c a :: .c b :: K) e H := by
  simp only [run, runK, exec]
  cases exec X go k π a ⟨e, H⟩ with
  | none => rfl
  | some p => obtain ⟨ex, s⟩ := p; cases ex <;> rfl
theorem run_skip : run X go k π F (.c .skip :: K) e H = run X go k π F K e H := rfl
theorem run_reg {l : List Ins} : run X go k π F (.c (.reg l) :: K) e H = run X go k π F (.ops l :: K) e H := rfl
theorem run_dreg {l : List Ins} : run X go k π F (.c (.dreg l) :: K) e H = run X go k π F (.q l :: K) e H := rfl
theorem run_ereg {l : List EIns} : run X go k π F (.c (.ereg l) :: K) e H = run X go k π F (.er l 0 [] [] :: K) e H := rfl
theorem run_er_nil {n : Nat} {T : LogT} {A : LogA} : run X go k π F (.er [] n T A :: K) e H = if apartE T A = true then run X go k π F K e H else none := by
  simp only [run, runK, runE, doneE]
  by_cases h : apartE T A = true
  · simp only [if_pos h]
  · simp only [if_neg h]; exact runK_none K
theorem run_er_t {d : Option Nat} {i : I} {fr : List Nat} {r : List EIns} {n : Nat} {T : LogT} {A : LogA} : run X go k π F (.er (⟨⟨d, none, i⟩, true, fr⟩ :: r) n T A :: K) e H = match stepI X go π d e H i with
    | some (v, H') => run X go k π F (.er r (n + 1) T (logA n (changes X π d e i) A) :: K) (e.put d v) H'
    | none => none := by
  simp only [run, runK, runE, wanted, if_true]
  cases stepI X go π d e H i with
  | none => exact runK_none K
  | some p => rfl
theorem run_er_f {d : Option Nat} {i : I} {fr : List Nat} {r : List EIns} {n : Nat} {T : LogT} {A : LogA} : run X go k π F (.er (⟨⟨d, none, i⟩, false, fr⟩ :: r) n T A :: K) e H = match stepQ X go π d e H i with
    | some v => run X go k π F (.er r (n + 1) (logT fr (touches X e i) T) A :: K) (e.put d v) H
    | none => none := by
  simp only [run, runK, runE, wanted, Bool.false_eq_true, if_false]
  cases stepQ X go π d e H i with
  | none => exact runK_none K
  | some v => rfl
theorem run_er_guard {d : Option Nat} {t : Nat} {b : Bool} {i : I} {f : Bool} {fr : List Nat} {r : List EIns} {n : Nat} {T : LogT} {A : LogA} : run X go k π F (.er (⟨⟨d, some (some t, b), i⟩, f, fr⟩ :: r) n T A :: K) e H = match e t with
    | .bool x => if x = b then run X go k π F (.er (⟨⟨d, none, i⟩, f, fr⟩ :: r) n T A :: K) e H else run X go k π F (.er r (n + 1) T A :: K) (e.put d .undef) H
    | .tup _ => run X go k π F (.er r (n + 1) T A :: K) (e.put d .undef) H
    | _ => none := by
  simp only [run, runK, runE, wanted]
  cases e t with
  | bool x =>
    by_cases h : x = b
    · subst h
      simp only [beq_self_eq_true, if_true]
    · have : (x == b) = false := by simpa using h
      simp only [this, if_neg h]
  | tup _ => rfl
  | _ => exact runK_none K
theorem run_cond {g : Opd} {a b : C} : run X go k π F (.c (.cond g a b) :: K) e H = condR X go k π F (g.ev X e) a b K e H := by
  simp only [run, runK, exec, condR]
  cases g.ev X e with
  | bool t => cases t <;> rfl
  | _ => exact runK_none K
theorem run_block {id : Nat} {c : C} : run X go k π F (.c (.block id c) :: K) e H = run X go k π F (.c c :: .blk id :: K) e H := by
  simp only [run, runK, exec]
  cases exec X go k π c ⟨e, H⟩ with
  | none => rfl
  | some p => obtain ⟨ex, s⟩ := p; cases ex <;> rfl
theorem run_loop {c : C} : run X go k π F (.c (.loop c) :: K) e H = run X go k π F (.it c k :: K) e H := rfl
theorem run_exit {id : Nat} : run X go k π F (.c (.exit id) :: K) e H = outR X go k π F id K e H := rfl
theorem run_ret : run X go k π F (.c .ret :: K) e H = F e H := by simp only [run, runK, exec]; exact runK_ret K _
theorem run_it {c : C} {n : Nat} : run X go k π F (.it c (n + 1) :: K) e H = run X go k π F (.c c :: .it c n :: K) e H := by
  simp only [run, runK, iter]
  cases exec X go k π c ⟨e, H⟩ with
  | none => rfl
  | some p => obtain ⟨ex, s⟩ := p; cases ex <;> rfl
theorem run_blk {id : Nat} : run X go k π F (.blk id :: K) e H = run X go k π F K e H := rfl
theorem out_c {id : Nat} {c : C} : outR X go k π F id (.c c :: K) e H = outR X go k π F id K e H := rfl
theorem out_it {id : Nat} {c : C} {n : Nat} : outR X go k π F id (.it c n :: K) e H = outR X go k π F id K e H := rfl
theorem out_blk {id j : Nat} : outR X go k π F id (.blk j :: K) e H = if id = j then run X go k π F K e H else outR X go k π F id K e H := by
  simp only [outR, runK]; split <;> rfl
theorem run_ops_nil : run X go k π F (.ops [] :: K) e H = run X go k π F K e H := rfl
theorem run_q_nil : run X go k π F (.q [] :: K) e H = run X go k π F K e H := rfl
theorem run_ops {d : Option Nat} {i : I} {l : List Ins} : run X go k π F (.ops (⟨d, none, i⟩ :: l) :: K) e H = stepR X go k π F (stepI X go π d e H i) d l K e := by
  simp only [run, runK, exec, runOps, wanted, stepR]
  cases stepI X go π d e H i with
  | none => exact runK_none K
  | some p => rfl
theorem run_q {d : Option Nat} {i : I} {l : List Ins} : run X go k π F (.q (⟨d, none, i⟩ :: l) :: K) e H = stepS X go k π F (stepQ X go π d e H i) d l K e H := by
  simp only [run, runK, exec, runQ, wanted, stepS]
  cases stepQ X go π d e H i with
  | none => exact runK_none K
  | some p => rfl
theorem run_guard {d : Option Nat} {t : Nat} {b : Bool} {i : I} {l : List Ins} : run X go k π F (.ops (⟨d, some (some t, b), i⟩ :: l) :: K) e H = guardR X go k π F (e t) b d i l K e H := by
  simp only [run, runK, exec, runOps, wanted, guardR, stepR]
  cases e t with
  | bool x =>
    by_cases h : x = b
    · subst h
      simp only [beq_self_eq_true, if_true]
      cases stepI X go π d e H i with
      | none => exact runK_none K
      | some p => rfl
    · have : (x == b) = false := by simpa using h
      simp only [this, if_neg h]
  | tup _ => rfl
  | _ => exact runK_none K
theorem run_guardQ {d : Option Nat} {t : Nat} {b : Bool} {i : I} {l : List Ins} : run X go k π F (.q (⟨d, some (some t, b), i⟩ :: l) :: K) e H = guardS X go k π F (e t) b d i l K e H := by
  simp only [run, runK, exec, runQ, wanted, guardS, stepS]
  cases e t with
  | bool x =>
    by_cases h : x = b
    · subst h
      simp only [beq_self_eq_true, if_true]
      cases stepQ X go π d e H i with
      | none => exact runK_none K
      | some p => rfl
    · have : (x == b) = false := by simpa using h
      simp only [this, if_neg h]
  | tup _ => rfl
  | _ => exact runK_none K

theorem cond_t {a b : C} : condR X go k π F (.bool true) a b K e H = run X go k π F (.c a :: K) e H := rfl
theorem cond_f {a b : C} : condR X go k π F (.bool false) a b K e H = run X go k π F (.c b :: K) e H := rfl
theorem cond_any {x : Bool} {a b : C} : condR X go k π F (.bool x) a b K e H = if x = true then condR X go k π F (.bool true) a b K e H else condR X go k π F (.bool false) a b K e H := by cases x <;> rfl
theorem step_some {v : AV} {H' : Heap} {d : Option Nat} {l : List Ins} : stepR X go k π F (some (v, H')) d l K e = run X go k π F (.ops l :: K) (e.put d v) H' := rfl
theorem stepS_some {v : AV} {d : Option Nat} {l : List Ins} : stepS X go k π F (some v) d l K e H = run X go k π F (.q l :: K) (e.put d v) H := rfl
theorem guard_tt {d : Option Nat} {i : I} {l : List Ins} : guardR X go k π F (.bool true) true d i l K e H = stepR X go k π F (stepI X go π d e H i) d l K e := rfl
theorem guard_ff {d : Option Nat} {i : I} {l : List Ins} : guardR X go k π F (.bool false) false d i l K e H = stepR X go k π F (stepI X go π d e H i) d l K e := rfl
theorem guard_tf {d : Option Nat} {i : I} {l : List Ins} : guardR X go k π F (.bool true) false d i l K e H = run X go k π F (.ops l :: K) (e.put d .undef) H := rfl
theorem guard_ft {d : Option Nat} {i : I} {l : List Ins} : guardR X go k π F (.bool false) true d i l K e H = run X go k π F (.ops l :: K) (e.put d .undef) H := rfl
theorem guard_u {b : Bool} {d : Option Nat} {i : I} {l : List Ins} : guardR X go k π F .undef b d i l K e H = run X go k π F (.ops l :: K) (e.put d .undef) H := rfl
theorem guard_any {x b : Bool} {d : Option Nat} {i : I} {l : List Ins} : guardR X go k π F (.bool x) b d i l K e H = if x = true then guardR X go k π F (.bool true) b d i l K e H else guardR X go k π F (.bool false) b d i l K e H := by cases x <;> rfl
theorem guardS_tt {d : Option Nat} {i : I} {l : List Ins} : guardS X go k π F (.bool true) true d i l K e H = stepS X go k π F (stepQ X go π d e H i) d l K e H := rfl
theorem guardS_ff {d : Option Nat} {i : I} {l : List Ins} : guardS X go k π F (.bool false) false d i l K e H = stepS X go k π F (stepQ X go π d e H i) d l K e H := rfl
theorem guardS_tf {d : Option Nat} {i : I} {l : List Ins} : guardS X go k π F (.bool true) false d i l K e H = run X go k π F (.q l :: K) (e.put d .undef) H := rfl
theorem guardS_ft {d : Option Nat} {i : I} {l : List Ins} : guardS X go k π F (.bool false) true d i l K e H = run X go k π F (.q l :: K) (e.put d .undef) H := rfl
theorem guardS_u {b : Bool} {d : Option Nat} {i : I} {l : List Ins} : guardS X go k π F .undef b d i l K e H = run X go k π F (.q l :: K) (e.put d .undef) H := rfl
theorem guardS_any {x b : Bool} {d : Option Nat} {i : I} {l : List Ins} : guardS X go k π F (.bool x) b d i l K e H = if x = true then guardS X go k π F (.bool true) b d i l K e H else guardS X go k π F (.bool false) b d i l K e H := by cases x <;> rfl

theorem cast_0 : ((0 : Nat) : Int) = 0 := rfl
theorem cast_1 : ((1 : Nat) : Int) = 1 := rfl
theorem cast_2 : ((2 : Nat) : Int) = 2 := rfl
theorem cast_3 : ((3 : Nat) : Int) = 3 := rfl
theorem cast_4 : ((4 : Nat) : Int) = 4 := rfl
theorem cast_5 : ((5 : Nat) : Int) = 5 := rfl
theorem cast_6 : ((6 : Nat) : Int) = 6 := rfl
theorem cast_7 : ((7 : Nat) : Int) = 7 := rfl
theorem cast_8 : ((8 : Nat) : Int) = 8 := rfl
theorem put_some {t : Nat} {v : AV} : e.put (some t) v = e.set t v := rfl
theorem put_none {v : AV} : e.put none v = e := rfl
theorem set_get {t s : Nat} {v : AV} : (e.set t v) s = if s = t then v else e s := rfl
theorem hset_get {kk k' : Key} {v : Nat × Option Blk} : (H.set kk v) k' = if k' = kk then v else H k' := rfl
theorem hnone_get {kk : Key} : Heap.none kk = (0, none) := rfl

theorem cells_agg (cs : List AV) : (AV.agg cs).cells = cs := rfl
theorem solid_agg (cs : List AV) : (AV.agg cs).solid = true := rfl
theorem cells_bool (b : Bool) : (AV.bool b).cells = [.bool b] := rfl
theorem solid_bool (b : Bool) : (AV.bool b).solid = true := rfl
theorem cells_int (k : IntKind) (n : Int) : (AV.int k n).cells = [.int k n] := rfl
theorem solid_int (k : IntKind) (n : Int) : (AV.int k n).solid = true := rfl
theorem cells_str (s : List UInt8) : (AV.str s).cells = [.str s] := rfl
theorem solid_str (s : List UInt8) : (AV.str s).solid = true := rfl
theorem cells_sl (l : List AV) : (AV.sl l).cells = [.sl l] := rfl
theorem solid_sl (l : List AV) : (AV.sl l).solid = true := rfl
theorem cells_zs (nl : Bool) : (AV.zs nl).cells = [.zs nl] := rfl
theorem solid_zs (nl : Bool) : (AV.zs nl).solid = true := rfl
theorem cells_own (k : Key) (v o l : Nat) : (AV.own k v o l).cells = [.own k v o l] := rfl
theorem solid_own (k : Key) (v o l : Nat) : (AV.own k v o l).solid = true := rfl
theorem cells_rp (e : AV) (j : Nat) : (AV.rp e j).cells = [.rp e j] := rfl
theorem solid_rp (e : AV) (j : Nat) : (AV.rp e j).solid = true := rfl
theorem cells_ptr (k : Key) (v i j : Nat) : (AV.ptr k v i j).cells = [.ptr k v i j] := rfl
theorem solid_ptr (k : Key) (v i j : Nat) : (AV.ptr k v i j).solid = true := rfl
theorem cells_nilp  : (AV.nilp ).cells = [.nilp ] := rfl
theorem solid_nilp  : (AV.nilp ).solid = true := rfl
theorem cells_fn (f : Nat) (c : List AV) : (AV.fn f c).cells = [.fn f c] := rfl
theorem solid_fn (f : Nat) (c : List AV) : (AV.fn f c).solid = true := rfl
theorem cells_nilfn  : (AV.nilfn ).cells = [.nilfn ] := rfl
theorem solid_nilfn  : (AV.nilfn ).solid = true := rfl
theorem cells_map (k : Key) (v : Nat) : (AV.map k v).cells = [.map k v] := rfl
theorem solid_map (k : Key) (v : Nat) : (AV.map k v).solid = true := rfl
theorem cells_nilmap  : (AV.nilmap ).cells = [.nilmap ] := rfl
theorem solid_nilmap  : (AV.nilmap ).solid = true := rfl
theorem cells_iface (t : Nat) (v : AV) : (AV.iface t v).cells = [.iface t v] := rfl
theorem solid_iface (t : Nat) (v : AV) : (AV.iface t v).solid = true := rfl
theorem cells_nilif  : (AV.nilif ).cells = [.nilif ] := rfl
theorem solid_nilif  : (AV.nilif ).solid = true := rfl

theorem len_str {s : List UInt8} : lenA true (.str s) = some s.length := rfl
theorem len_sl {l : List AV} : lenA false (.sl l) = some l.length := rfl
theorem len_zs {nl : Bool} : lenA false (.zs nl) = some 0 := rfl
theorem len_own {k : Key} {v o n : Nat} : lenA false (.own k v o n) = some n := rfl
theorem at_sl {H : Heap} {sz : Nat} {l : List AV} {i : AV} : indexAddrA H sz (.sl l) i = match nat? i with
    | some n => (match l[n]? with | some a => (if a.cells.length = sz then some (.rp a 0) else none) | none => none)
    | none => none := by
  unfold indexAddrA; cases nat? i <;> rfl
theorem at_own {H : Heap} {key : Key} {ver off len sz : Nat} {i : AV} : indexAddrA H sz (.own key ver off len) i = match nat? i with
    | some n => (match H.live key ver with | some b => (if n < len ∧ b.sz = sz then some (.ptr key ver (off + n) 0) else none) | none => none)
    | none => none := by
  unfold indexAddrA; cases nat? i <;> rfl

/-- What a function answers: its result, frozen. -/
def finS (rs : List Res) (e : Env) (H : Heap) : Option AV := match result ⟨e, H⟩ rs with
  | some v => snap H v
  | none => none
/-- What a function answers, and the blocks that it leaves. -/
def finH (rs : List Res) (e : Env) (H : Heap) : Option (AV × Heap) := match result ⟨e, H⟩ rs with
  | some v => some (v, H)
  | none => none
end

theorem ans_run {X : Ctx} {k f : Nat} {args : List AV} {fd : FD} (hp : X.prim f = none) (hc : X.code f = some fd) :
    ansA X (call X (k + 1)) f args = run X (call X k) k [] (finS fd.results) [.c fd.body] (initEnv args) Heap.none := by
  simp only [ansA, hp, call, hc, run, runK]
  cases exec X (call X k) k [] fd.body ⟨initEnv args, Heap.none⟩ with
  | none => rfl
  | some p =>
    obtain ⟨ex, s⟩ := p
    cases ex <;> simp only [runK, finS]
    · cases result s fd.results <;> rfl
    · cases result s fd.results <;> rfl
theorem call_run {X : Ctx} {k f : Nat} {args : List AV} {π : Key} {H : Heap} {fd : FD} (hc : X.code f = some fd) :
    call X (k + 1) f args π H = run X (call X k) k π (finH fd.results) [.c fd.body] (initEnv args) H := by
  simp only [call, hc, run, runK]
  cases exec X (call X k) k π fd.body ⟨initEnv args, H⟩ with
  | none => rfl
  | some p =>
    obtain ⟨ex, s⟩ := p
    cases ex <;> simp only [runK, finH]
    · cases result s fd.results <;> rfl
    · cases result s fd.results <;> rfl

theorem snap_bool {H : Heap} {r : AV} {b : Bool} (h : snap H r = some (.bool b)) : r = .bool b := by
  cases r with
  | bool x => simp only [snap] at h; exact Option.some.inj h
  | own k v o l => simp only [snap, frozen1] at h; split at h <;> (try split at h) <;> cases h
  | agg cs => simp only [snap] at h; split at h <;> cases h
  | tup cs => simp only [snap] at h; split at h <;> cases h
  | fn f cs => simp only [snap] at h; split at h <;> cases h
  | iface t v => simp only [snap] at h; split at h <;> cases h
  | _ => simp only [snap] at h; cases h

theorem ans_call {X : Ctx} {k f : Nat} {args : List AV} {b : Bool} (hp : X.prim f = none) (h : ansA X (call X k) f args = some (.bool b)) : ∃ H', call X k f args [] Heap.none = some (.bool b, H') := by
  simp only [ansA, hp] at h
  split at h
  · rename_i r H1 hr
    exact ⟨H1, by rw [hr, snap_bool h]⟩
  · cases h

end Go.Den
