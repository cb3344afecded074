import Derived.Test.YtdfhdhoofofenaaGreatDoorA05
set_option linter.unusedSimpArgs false
set_option linter.unusedVariables false
namespace Lx
open Go
abbrev Ar1 := Option (Nat × TypeId × List D)
abbrev Spec := List LV → Bx → (LV → Bx → Ar1 → Prop) → (D → Bx → Prop) → Prop
abbrev Spec3 := List LV → Bx → Ar → (LV → Bx → Ar → Prop) → (D → Bx → Prop) → Prop
inductive SpecX where
 | a (Sp : Spec)
 | b (Sp : Spec3)
instance : Coe Spec SpecX := ⟨.a⟩
def dOk (s : S) : Option Tmp → Prop
 | none => True
 | some d => d < s.n
def S.pt (s : S) (d : Option Tmp) (x : LV) : S :=
 match d with
 | none => s
 | some d => { s with tm := put d x s.tm }
def frz1 (s : S) (x : LV) (K : D → S → Prop) : Prop :=
 match x with
 | .d x => K x s
 | .os r sz n => sm (s.ar r) fun a => a.1 = sz ∧ n = a.2.2.length ∧ K (.sl sz a.2.2 false) { s with bx := mapf (Box.fz r n (.sl sz a.2.2 false)) s.bx, ar := del r s.ar }
 | _ => False
def frzs (s : S) : List LV → (List D → S → Prop) → Prop
 | [], K => K [] s
 | x :: xs, K => frz1 s x fun d s' => frzs s' xs fun ds s'' => K (d :: ds) s''
def frz (s : S) (x : LV) (K : D → S → Prop) : Prop :=
 match x with
 | .ag xs => frzs s xs fun ds s' => K (.ag ds) s'
 | x => frz1 s x K
def frzA1 (s : S) (x : LV) (K : LV → S → Prop) : Prop :=
 match x with
 | .bp k o => K (.bp k o) s
 | .fn f xs ys => K (.fn f xs ys) s
 | .ep x o => K (.ep x o) s
 | .mp k => K (.mp k) s
 | x => frz s x fun d s' => K (.d d) s'
def frzA (s : S) : List LV → (List LV → S → Prop) → Prop
 | [], K => K [] s
 | x :: xs, K => frzA1 s x fun y s' => frzA s' xs fun ys s'' => K (y :: ys) s''
mutual
def kys : LV → List Nat
 | .bp k _ => [k]
 | .mp k => [k]
 | .ag xs => kyss xs
 | .fn _ xs ys => kyss xs ++ kyss ys
 | .tup xs => kyss xs
 | _ => []
def kyss : List LV → List Nat
 | [] => []
 | x :: xs => kys x ++ kyss xs
end
def ixof (k : Nat) : List Nat → Nat
 | [] => 0
 | j :: l => if k = j then 0 else ixof k l + 1
def nodup : List Nat → Bool
 | [] => true
 | k :: l => !(l.contains k) && nodup l
def ddp : List Nat → List Nat
 | [] => []
 | k :: l => if l.contains k then ddp l else k :: ddp l
theorem zz0 {k : Nat} : ∀ {l : List Nat}, k ∈ l → k ∈ ddp l
 | j :: l, h => by
   unfold ddp
   cases h with
   | head =>
     split
     · rename_i e; exact zz0 (by simpa using e)
     · simp
   | tail _ h =>
     split
     · exact zz0 h
     · exact List.mem_cons_of_mem _ (zz0 h)
mutual
def ren (ks : List Nat) : LV → LV
 | .d x => .d x
 | .ep x off => .ep x off
 | .bp k off => .bp (1000 + ixof k ks) off
 | .mp k => .mp (1000 + ixof k ks)
 | .fn f xs ys => .fn f (rens ks xs) (rens ks ys)
 | .ag xs => .ag (rens ks xs)
 | .tup xs => .tup (rens ks xs)
 | _ => .un
def rens (ks : List Nat) : List LV → List LV
 | [] => []
 | x :: xs => ren ks x :: rens ks xs
end
def nth (l : List Nat) (n : Nat) : Option Nat := l[n]?
def fp (ks : List Nat) (bx : Bx) : Bx := fun j => if 1000 ≤ j then (nth ks (j - 1000)).bind bx else none
def mrg (ks : List Nat) (bx' bx : Bx) : Bx := fun k => if ks.contains k then bx' (1000 + ixof k ks) else bx k
def okB (bx : Bx) : List Nat → Prop
 | [] => True
 | k :: ks => (sm (bx k) fun b => (allD b.cells).isSome = true) ∧ okB bx ks
mutual
def rn (o : Option Nat) : LV → LV
 | .d x => .d x
 | .ep x off => .ep x off
 | .os r sz n => if r = 0 then (match o with
   | some d => .os d sz n
   | none => .un) else .un
 | .ag xs => .ag (rns o xs)
 | .tup xs => .tup (rns o xs)
 | _ => .un
def rns (o : Option Nat) : List LV → List LV
 | [] => []
 | x :: xs => rn o x :: rns o xs
end
def S.ret (s : S) (d : Option Tmp) (ks : List Nat) (x : LV) (bx' : Bx) (a1 : Ar1) : S :=
 match a1, d with
 | some a, some d => { n := s.n, tm := put d (rn (some d) x) (mapf (fgt d) s.tm), bx := mapf (Box.fgt d) (mrg ks bx' s.bx), ar := put d a s.ar }
 | _, d => S.pt { s with bx := mrg ks bx' s.bx } d (rn none x)
def callA (Sp : Spec) (s : S) (d : Option Tmp) (args : List LV) (K : S → Prop) (Kp : D → S → Prop) : Prop :=
 frzA s args fun as s' =>
   nodup (ddp (kyss as)) = true ∧ okB s'.bx (ddp (kyss as)) ∧ Sp (rens (ddp (kyss as)) as) (fp (ddp (kyss as)) s'.bx) (fun x bx' a1 => dOk s d ∧ K (s'.ret d (ddp (kyss as)) x bx' a1)) (fun p bx' => Kp p { s' with bx := mrg (ddp (kyss as)) bx' s'.bx })
def lnd1 (s : S) (x : LV) (K : D → S → Prop) : Prop :=
 match x with
 | .d x => K x s
 | .os r sz n => sm (s.ar r) fun a => a.1 = sz ∧ n = a.2.2.length ∧ K (.sl sz a.2.2 false) { s with ar := put r (a.1, lnt a.2.1, a.2.2) s.ar }
 | _ => False
def lnds (s : S) : List LV → (List D → S → Prop) → Prop
 | [], K => K [] s
 | x :: xs, K => lnd1 s x fun d s' => lnds s' xs fun ds s'' => K (d :: ds) s''
def lnd (s : S) (x : LV) (K : D → S → Prop) : Prop :=
 match x with
 | .ag xs => lnds s xs fun ds s' => K (.ag ds) s'
 | x => lnd1 s x K
def lndA1 (s : S) (x : LV) (K : LV → S → Prop) : Prop :=
 match x with
 | .bp k o => K (.bp k o) s
 | .fn f xs ys => K (.fn f xs ys) s
 | .ep x o => K (.ep x o) s
 | .mp k => K (.mp k) s
 | .un => K .un s
 | x => lnd s x fun d s' => K (.d d) s'
def lndA (s : S) : List LV → (List LV → S → Prop) → Prop
 | [], K => K [] s
 | x :: xs, K => lndA1 s x fun y s' => lndA s' xs fun ys s'' => K (y :: ys) s''
def cn (k c : Nat) : Nat := 2000 + 64 * k + c
def cnC (k : Nat) : Nat → List LV → List LV
 | _, [] => []
 | c, x :: l => (match x with
   | .d x => .d x
   | .os _ sz n => .os (cn k c) sz n
   | _ => .un) :: cnC k (c + 1) l
def cnM (k : Nat) : Nat → List LV → List (Nat × Nat)
 | _, [] => []
 | c, x :: l => match x with
   | .os r _ _ => (cn k c, r) :: cnM k (c + 1) l
   | _ => cnM k (c + 1) l
def fp3 (bx : Bx) : Nat → List Nat → Bx
 | _, [] => nix
 | i, k :: ks => match bx k with
   | some b => put (1000 + i) ⟨cnC (1000 + i) 0 b.cells, b.ty⟩ (fp3 bx (i + 1) ks)
   | none => fp3 bx (i + 1) ks
def M3 (bx : Bx) : Nat → List Nat → List (Nat × Nat)
 | _, [] => []
 | i, k :: ks => match bx k with
   | some b => cnM (1000 + i) 0 b.cells ++ M3 bx (i + 1) ks
   | none => M3 bx (i + 1) ks
def pa3 (ar : Ar) : List (Nat × Nat) → Ar
 | [] => nix
 | (r', r) :: l => match ar r with
   | some a => put r' a (pa3 ar l)
   | none => del r' (pa3 ar l)
def N3 (bx' : Bx) : Nat → List Nat → List (Nat × Nat)
 | _, [] => []
 | i, k :: ks => match bx' (1000 + i) with
   | some b => cnM k 0 b.cells ++ N3 bx' (i + 1) ks
   | none => N3 bx' (i + 1) ks
def bb3 (bx' : Bx) : Nat → List Nat → Bx → Bx
 | _, [], bx => bx
 | i, k :: ks, bx => match bx' (1000 + i) with
   | some b => put k ⟨cnC k 0 b.cells, b.ty⟩ (bb3 bx' (i + 1) ks bx)
   | none => del k (bb3 bx' (i + 1) ks bx)
def ab3 (ar' : Ar) : List (Nat × Nat) → Ar → Ar
 | [], ar => ar
 | (r, r') :: l, ar => match ar' r' with
   | some a => put r a (ab3 ar' l ar)
   | none => del r (ab3 ar' l ar)
def fgM : List Nat → (Nat → Option LV) → Nat → Option LV
 | [], f => f
 | r :: l, f => fgM l (mapf (fgt r) f)
def fgB : List Nat → Bx → Bx
 | [], f => f
 | r :: l, f => fgB l (mapf (Box.fgt r) f)
def delL : List Nat → Ar → Ar
 | [], f => f
 | r :: l, f => delL l (del r f)
def S.back (s : S) (d : Option Tmp) (M N : List (Nat × Nat)) (ks : List Nat) (x : LV) (bx' : Bx) (ar' : Ar) : S :=
 S.pt { n := s.n, tm := fgM (M.map (·.2) ++ N.map (·.1)) s.tm, bx := bb3 bx' 0 ks (fgB (M.map (·.2) ++ N.map (·.1)) s.bx), ar := ab3 ar' N (delL (M.map (·.2)) s.ar) } d (rn none x)
def callB (Sp : Spec3) (s : S) (d : Option Tmp) (args : List LV) (K : S → Prop) (Kp : D → S → Prop) : Prop :=
 lndA s args fun as s => nodup (ddp (kyss as)) = true ∧ nodup ((M3 s.bx 0 (ddp (kyss as))).map (·.2)) = true ∧ nodup ((M3 s.bx 0 (ddp (kyss as))).map (·.1)) = true ∧
  Sp (rens (ddp (kyss as)) as) (fp3 s.bx 0 (ddp (kyss as))) (pa3 s.ar (M3 s.bx 0 (ddp (kyss as))))
   (fun x bx' ar' => dOk s d ∧ nodup ((N3 bx' 0 (ddp (kyss as))).map (·.1)) = true ∧ nodup ((N3 bx' 0 (ddp (kyss as))).map (·.2)) = true ∧ K (s.back d (M3 s.bx 0 (ddp (kyss as))) (N3 bx' 0 (ddp (kyss as))) (ddp (kyss as)) x bx' ar'))
   (fun p bx' => N3 bx' 0 (ddp (kyss as)) = [] ∧ Kp p (s.back none (M3 s.bx 0 (ddp (kyss as))) [] (ddp (kyss as)) .un bx' nix))
def callK (sp : FuncId → Option SpecX) (s : S) (d : Option Tmp) (fv : LV) (args : List LV) (K : S → Prop) (Kp : D → S → Prop) : Prop :=
 match fv with
 | .fn (.func f) first cap => sm (sp f) fun X => match X with
   | .a Sp => callA Sp s d (first ++ args ++ cap) K Kp
   | .b Sp => callB Sp s d (first ++ args ++ cap) K Kp
 | _ => False
def stP (i : TI) (off : Nat) (x : LV) (cells : List LV) : Option (List LV) :=
 match pcs x with
 | some cs => if cs.length = i.size ∧ off + cs.length ≤ cells.length ∧ cs.all one then some (cells.take off ++ cs ++ cells.drop (off + cs.length)) else none
 | none => none
def D.cs : D → List D
 | .ag xs => xs
 | x => [x]
def D.el (sz : Nat) (x : D) : Bool := x.flat && x.cs.length == sz && x.cs.all fun y => one (.d y)
def storK (E : Env) (s : S) (t : TypeId) (p x : LV) (K : S → Prop) : Prop :=
 sm (E.ti t) fun i =>
 match p with
 | .bp k off => sm (s.bx k) fun b => b.ty < 1000000 ∧ sm (stP i off x b.cells) fun cs => K { s with bx := put k ⟨cs, b.ty⟩ s.bx }
 | .ap r sz n j 0 => frz s x fun y s' => sm (s'.ar r) fun a => a.1 = sz ∧ a.2.1 < 1000000 ∧ i.size = sz ∧ n = a.2.2.length ∧ j < n ∧ y.el sz = true ∧
    K { s' with ar := put r (a.1, a.2.1, a.2.2.set j y) s'.ar }
 | .ap r sz n j o => sm (s.ar r) fun a => a.1 = sz ∧ a.2.1 < 1000000 ∧ i.size = 1 ∧ n = a.2.2.length ∧ j < n ∧ match x with
   | .d y => one (.d y) = true ∧ y.flat = true ∧ sm a.2.2[j]? fun e => match e with
     | .ag cs => o < cs.length ∧ K { s with ar := put r (a.1, a.2.1, a.2.2.set j (.ag (cs.set o y))) s.ar }
     | _ => False
   | _ => False
 | _ => False
def S.nb (s : S) (d : Nat) (cs : List LV) (t : TypeId) : S :=
 { n := s.n, tm := put d (.bp d 0) (mapf (fgt d) s.tm), bx := put d ⟨fgts d cs, t⟩ (mapf (Box.fgt d) s.bx), ar := s.ar }
def boxK (s : S) (d : Option Tmp) (t : TypeId) (i : TI) (cs : List LV) (K : S → Prop) : Prop :=
 match d with
 | some d => d < s.n ∧ d < 1000 ∧ t < 1000000 ∧ cs.all one = true ∧ K (s.nb d cs t)
 | none => False
def S.na (s : S) (d : Nat) (sz : Nat) (t : TypeId) (xs : List D) : S :=
 { n := s.n, tm := put d (.os d sz xs.length) (mapf (fgt d) s.tm), bx := mapf (Box.fgt d) s.bx, ar := put d (sz, t, xs) s.ar }
def frzE (s : S) (n : Nat) : List (Nat × LV) → (List D → S → Prop) → Prop
 | [], K => K [] s
 | (i, x) :: xs, K => i = n ∧ frz s x fun d s' => frzE s' (n + 1) xs fun ds s'' => K (d :: ds) s''
def bslK (E : Env) (s : S) (d : Option Tmp) (t : TypeId) (len : Nat) (ps : List (Nat × Operand)) (K : S → Prop) : Prop :=
 sm (E.ti t) fun ti =>
 match ti.desc with
 | .sli e => sm (E.ti e) fun te => sm (s.evs ps) fun xs => frzE s 0 xs fun ds s' => ds.length = len ∧ ds.all (·.el te.size) = true ∧ 0 < te.size ∧ len * te.size ≤ 16777216 ∧ e < 1000000 ∧
    match d with
    | some d => d < s.n ∧ if E.own d then 0 < len ∧ K (s'.na d te.size e ds) else K (s'.pt (some d) (.d (.sl te.size ds true)))
    | none => False
 | _ => False
def appK (E : Env) (s : S) (d : Option Tmp) (t : TypeId) (x y : LV) (K : S → Prop) : Prop :=
 sm (E.ti t) fun ti =>
 match ti.desc, d with
 | .sli e, some d => sm (E.ti e) fun te => 0 < te.size ∧ e < 1000000 ∧ d < s.n ∧
   match y with
   | .d y => sm (y.asl te.size) fun q =>
     match x with
     | .d x => sm (x.asl te.size) fun p => p.2 = true ∧ p.1.length + q.1.length ≤ 9223372036854775807 ∧ (p.1.length + q.1.length) * te.bytes ≤ 140737488355328 ∧
        (q.1 = [] → K (s.pt (some d) (.d x))) ∧ (q.1 ≠ [] → K (s.na d te.size e (p.1 ++ q.1)))
     | .os r sz n => sm (s.ar r) fun a => a.1 = te.size ∧ sz = te.size ∧ tyo a.2.1 = e ∧ n = a.2.2.length ∧ n + q.1.length ≤ 9223372036854775807 ∧ (n + q.1.length) * te.bytes ≤ 140737488355328 ∧
        K { s with ar := put r (te.size, a.2.1, a.2.2 ++ q.1) s.ar, tm := put d (.os r sz (n + q.1.length)) s.tm }
     | _ => False
   | _ => False
 | _, _ => False
def kof (i : TI) : D → Bool
 | .int k _ => match i.desc with
   | .int k' => decide (k = k')
   | _ => false
 | .st _ => match i.desc with
   | .str => true
   | _ => false
 | _ => false
def keq : D → D → Bool
 | .int k a, .int k' b => decide (k = k') && a == b
 | .st a, .st b => a == b
 | _, _ => false
def qv1 (i : TI) : List LV → Bool
 | [] => true
 | .d k :: _ :: r => kof i k && qv1 i r
 | _ => false
def qvi (k : D) : List LV → Option Nat
 | .d k' :: _ :: r => if keq k k' then some 0 else (qvi k r).map (· + 1)
 | _ => none
def mset (cs : List LV) (k : D) (x : LV) : List LV := match qvi k cs with
 | some i => cs.set (2 * i + 1) x
 | none => cs ++ [.d k, x]
def insK (E : Env) (s : S) (t : TypeId) (m k x : LV) (K : S → Prop) : Prop :=
 sm (E.ti t) fun ti =>
 match ti.desc with
 | .map kt _ => sm (E.ti kt) fun ki => match m, k with
   | .mp j, .d k => sm (s.bx j) fun b => b.ty = 1000000 ∧ kof ki k = true ∧ qv1 ki b.cells = true ∧ one x = true ∧ K { s with bx := put j ⟨mset b.cells k x, b.ty⟩ s.bx }
   | _, _ => False
 | _ => False
def S.nm (s : S) (d : Nat) : S := { n := s.n, tm := put d (.mp d) (mapf (fgt d) s.tm), bx := put d ⟨[], 1000000⟩ (mapf (Box.fgt d) s.bx), ar := s.ar }
def mkmK (s : S) (d : Option Tmp) (K : S → Prop) : Prop := match d with
 | some d => d < s.n ∧ d < 1000 ∧ K (s.nm d)
 | none => False
def rngK (E : Env) (s : S) (d : Option Tmp) (t : TypeId) (x : LV) (K : S → Prop) : Prop :=
 sm (E.ti t) fun ti =>
 match ti.desc with
 | .map _ _ => match x, d with
   | .mp j, some d => sm (s.bx j) fun b => b.ty = 1000000 ∧ d < s.n ∧ d < 1000 ∧ K (s.nb d [.mp j] (1000001 + b.cells.length / 2))
   | _, _ => False
 | _ => False
def qvq : List LV → Option (List Nat)
 | [] => some []
 | .d (.int _ n) :: r => (qvq r).map (n.toNat :: ·)
 | _ => none
def nxt1 (s : S) (d : Option Tmp) (r j : Nat) (ty : TypeId) (cs : List LV) (seen : List Nat) (m : List LV) (K : S → Prop) : Prop :=
 ∀ i k v, i < m.length / 2 → i ∉ seen → m[2 * i]? = some k → m[2 * i + 1]? = some v → K (S.pt { s with bx := put r ⟨.mp j :: (cs ++ [.d (.int .i64 i)]), ty⟩ s.bx } d (.tup [.d (.bool true), k, v]))
def nxt0 (s : S) (d : Option Tmp) (seen : List Nat) (m : List LV) (K : S → Prop) : Prop :=
 (∀ i, i < m.length / 2 → i ∈ seen) → K (s.pt d (.tup [.d (.bool false)]))
def nxtK (s : S) (d : Option Tmp) (it : LV) (K : S → Prop) : Prop := match it with
 | .bp r 0 => sm (s.bx r) fun b => match b.cells with
   | .mp j :: cs => sm (qvq cs) fun seen => sm (s.bx j) fun m => m.ty = 1000000 ∧ b.ty = 1000001 + m.cells.length / 2 ∧ m.cells.length % 2 = 0 ∧ dOk s d ∧ nxt1 s d r j b.ty cs seen m.cells K ∧ nxt0 s d seen m.cells K
   | _ => False
 | _ => False
def entK (s : S) (d : Option Tmp) (it : LV) (K : S → Prop) : Prop := match it with
 | .bp r 0 => sm (s.bx r) fun b => match b.cells with
   | .mp j :: cs => sm (qvq cs) fun seen => sm seen.getLast? fun i => sm (s.bx j) fun m => m.ty = 1000000 ∧ b.ty = 1000001 + m.cells.length / 2 ∧ dOk s d ∧ sm m.cells[2 * i]? fun k => sm m.cells[2 * i + 1]? fun v => K (s.pt d (.tup [k, v]))
   | _ => False
 | _ => False
def lukR (ok : Bool) (z : Value) (cs : List LV) (K : LV → Prop) : Option Nat → Prop
 | some i => sm cs[2 * i + 1]? fun v => K (if ok then .tup [v, .d (.bool true)] else v)
 | none => K (if ok then .tup [cv z, .d (.bool false)] else cv z)
def lukK (E : Env) (s : S) (t : TypeId) (m k : LV) (ok : Bool) (K : LV → Prop) : Prop :=
 sm (E.ti t) fun ti =>
 match ti.desc with
 | .map kt vt => sm (E.ti kt) fun ki => sm (E.ti vt) fun vi => match m, k with
   | .mp j, .d k => sm (s.bx j) fun b => b.ty = 1000000 ∧ kof ki k = true ∧ qv1 ki b.cells = true ∧ lukR ok vi.zero b.cells K (qvi k b.cells)
   | _, _ => False
 | _ => False
def opK (E : Env) (sp : FuncId → Option SpecX) (o : Oper) (s : S) (K : S → Prop) (Kp : D → S → Prop) : Prop :=
 match o.op with
 | .store t p x => o.dst = none ∧ sm (s.ev p) fun p => sm (s.ev x) fun x => storK E s t p x K
 | .alloc t => sm (E.ti t) fun i => boxK s o.dst t i (vcs i.zero) K
 | .box t x => sm (E.ti t) fun i => sm (s.ev x) fun x => sm (pcs x) fun cs => boxK s o.dst t i cs K
 | .buildSlice t len ps => bslK E s o.dst t len ps.toList K
 | .call { callee := .builtin .append, args, argTypes } => match args.toList, argTypes.toList with
   | [x, y], [t, t'] => t = t' ∧ sm (s.ev x) fun x => sm (s.ev y) fun y => appK E s o.dst t x y K
   | _, _ => False
 | .call { callee := .value f, args, argTypes } => sm (s.ev f) fun f => sm (s.evs (args.toList.map fun x => (0, x))) fun as => callK sp s o.dst f (as.map (·.2)) K Kp
 | .panic x => sm (s.ev x) fun x => match x with
   | .d (.ifc t y) => Kp (.ifc t y) s
   | _ => False
 | .makeMap _ none => mkmK s o.dst K
 | .insert t m k x => o.dst = none ∧ sm (s.ev m) fun m => sm (s.ev k) fun k => sm (s.ev x) fun x => insK E s t m k x K
 | .mapUpdate t m k x => o.dst = none ∧ sm (s.ev m) fun m => sm (s.ev k) fun k => sm (s.ev x) fun x => insK E s t m k x K
 | .range t x => sm (s.ev x) fun x => rngK E s o.dst t x K
 | .next it false => sm (s.ev it) fun it => nxtK s o.dst it K
 | .entry it => sm (s.ev it) fun it => entK s o.dst it K
 | .lookup t m k ok => sm (s.ev m) fun m => sm (s.ev k) fun k => lukK E s t m k ok fun x => dOk s o.dst ∧ K (s.pt o.dst x)
 | _ => valK E o.op s fun x => dOk s o.dst ∧ K (s.pt o.dst x)
end Lx
