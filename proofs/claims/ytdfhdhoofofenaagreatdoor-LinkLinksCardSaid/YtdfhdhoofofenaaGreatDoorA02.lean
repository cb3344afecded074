import Derived.Test.YtdfhdhoofofenaaGreatDoorA01
set_option linter.unusedSimpArgs false
set_option linter.unusedVariables false
namespace Lx
open Go
def sm {α : Type} (o : Option α) (K : α → Prop) : Prop := ∃ x, o = some x ∧ K x
@[push_cast] theorem qjp {α : Type} (x : α) (K : α → Prop) : sm (some x) K = K x := by simp [sm]
@[push_cast] theorem qjq {α : Type} (K : α → Prop) : sm none K = False := by simp [sm]
def cvd : Value → D
 | .int k n => .int k n
 | .bool b => .bool b
 | .string s => .st s.data.toList
 | v => .imm v
def cv : Value → LV
 | .agg cs => .d (.ag (cs.toList.map cvd))
 | v => .d (cvd v)
theorem cvd_rp (Φ : Nat → Nat → Option Value) (v : Value) : Rp Φ (cvd v) v := by
 cases v <;> simp only [cvd] <;> first | exact .int _ _ | exact .bool _ | exact .imm _ | exact .st _
theorem zv0 (Φ : Nat → Nat → Option Value) : ∀ vs : List Value, Rps Φ (vs.map cvd) vs
 | [] => .nil
 | v :: vs => .cons (cvd_rp Φ v) (zv0 Φ vs)
theorem cv_rp (g : Gh) (v : Value) : LRp g (cv v) v := by
 cases v with
 | agg cs =>
   simp only [cv]
   have := Rp.ag (zv0 g.Φ cs.toList)
   exact .d (by simpa using this)
 | _ => exact .d (cvd_rp _ _)
def S.ev (s : S) : Operand → Option LV
 | .tmp t => s.tm t
 | .const v => some (cv v)
 | .global _ => none
 | .func f => some (.fn (.func f) [] [])
theorem qz9 {z : Bg} {g : Gh} {ds : List Deferred} {s : S} {a : Act} {w : World} (h : R z g ds s a w) {o : Operand} {x : LV} (hx : s.ev o = some x) : LRp g x (a.eval o) := by
 cases o with
 | tmp t => exact (h.tm t x hx).2
 | const v => simp only [S.ev, Option.some.injEq] at hx; subst hx; exact cv_rp g v
 | global g => simp [S.ev] at hx
 | func f => simp only [S.ev, Option.some.injEq] at hx; subst hx; exact .fn (.func f) .nil .nil
def qqp : LV → Option (List LV)
 | .d (.ag xs) => some (xs.map .d)
 | .ag xs => some xs
 | _ => none
theorem qv4 {g : Gh} {x : LV} {v : Value} {xs : List LV} (h : LRp g x v) (hx : qqp x = some xs) : ∃ vs, v = .agg vs.toArray ∧ LRps g xs vs := by
 cases x <;> simp only [qqp] at hx <;> try (cases hx; done)
 · rename_i x
   cases x <;> simp only [qqp] at hx <;> try (cases hx; done)
   simp only [Option.some.injEq] at hx; subst hx
   cases h with | d h => cases h with | ag h => exact ⟨_, rfl, LRps.ofD h⟩
 · simp only [Option.some.injEq] at hx; subst hx
   cases h with | ag h => exact ⟨_, rfl, h⟩
def allD : List LV → Option (List D)
 | [] => some []
 | .d x :: xs => (allD xs).map (x :: ·)
 | _ :: _ => none
theorem zqi : ∀ {xs : List LV} {ds : List D}, allD xs = some ds → xs = ds.map .d
 | [], ds, h => by simp [allD] at h; subst h; rfl
 | .d x :: xs, ds, h => by
   simp only [allD, Option.map_eq_some_iff] at h
   obtain ⟨ds', h', rfl⟩ := h
   simp [zqi h']
 | .bp _ _ :: _, _, h | .os _ _ _ :: _, _, h | .ap _ _ _ _ _ :: _, _, h | .ep _ _ :: _, _, h | .ag _ :: _, _, h | .fn _ _ _ :: _, _, h | .tup _ :: _, _, h | .mp _ :: _, _, h | .un :: _, _, h => by simp [allD] at h
def mk (xs : List LV) : LV := match allD xs with
 | some ds => .d (.ag ds)
 | none => .ag xs
theorem mk_rp {g : Gh} {xs : List LV} {vs : List Value} (h : LRps g xs vs) : LRp g (mk xs) (.agg vs.toArray) := by
 unfold mk
 split
 · rename_i ds hd
   have := zqi hd
   subst this
   exact .d (.ag h.toD)
 · exact .ag h
def one : LV → Bool
 | .d (.ag _) | .ag _ | .tup _ | .un => false
 | .d (.imm x) => x.oneCell'
 | _ => true
theorem zzx {g : Gh} {x : LV} {v : Value} (h : LRp g x v) (h1 : one x = true) : v.oneCell' = true := by
 cases h with
 | d h => cases h <;> first | rfl | (simp [one] at h1; done) | (simpa [one] using h1)
 | bp => rfl
 | os h1' _ => exact h1'
 | ap h1' _ => exact h1'
 | ep => rfl
 | ag => simp [one] at h1
 | fn => rfl
 | tup => simp [one] at h1
 | mp => rfl
 | un => simp [one] at h1
theorem qkt {v : Value} (h : v.oneCell' = true) : v.cells = #[v] := by
 cases v <;> first | rfl | (simp [Value.oneCell'] at h)
def prt (i : TI) (off : Nat) (xs : List LV) : Option LV :=
 if i.agg then (if off + i.size ≤ xs.length then some (mk ((xs.drop off).take i.size)) else none) else xs[off]?
structure Env where
 tl : List (Nat × TI)
 wrap : Bool
 own : Nat → Bool
 vis : Nat → Bool
def Env.ti (E : Env) (t : TypeId) : Option TI := lkp t E.tl
def D.lcs : D → List LV
 | .ag xs => xs.map .d
 | x => [.d x]
def D.flat : D → Bool
 | .imm x => x.oneCell'
 | _ => true
def ldK (s : S) (i : TI) (x : LV) (K : LV → Prop) : Prop :=
 match x with
 | .bp k off => sm (s.bx k) fun b => b.ty < 1000000 ∧ sm (prt i off b.cells) K
 | .ep x off => x.flat = true ∧ sm (prt i off x.lcs) K
 | .ap r sz n j o => sm (s.ar r) fun a => a.1 = sz ∧ n = a.2.2.length ∧ j < n ∧ ∀ x, a.2.2[j]? = some x → x.flat = true ∧ sm (prt i o x.lcs) K
 | _ => False
def inr : IntKind → Int → Prop
 | .i8, n => -128 ≤ n ∧ n ≤ 127
 | .i16, n => -32768 ≤ n ∧ n ≤ 32767
 | .i32, n => -2147483648 ≤ n ∧ n ≤ 2147483647
 | .i64, n => -9223372036854775808 ≤ n ∧ n ≤ 9223372036854775807
 | .u8, n => 0 ≤ n ∧ n ≤ 255
 | .u16, n => 0 ≤ n ∧ n ≤ 65535
 | .u32, n => 0 ≤ n ∧ n ≤ 4294967295
 | .u64, n => 0 ≤ n ∧ n ≤ 18446744073709551615
def arK (E : Env) (k : IntKind) (n : Int) (K : LV → Prop) : Prop :=
 if E.wrap then K (.d (.int k (k.wrap n))) else inr k n ∧ K (.d (.int k n))
def intK (E : Env) (op : BinOp) (k : IntKind) (a b : Int) (K : LV → Prop) : Prop :=
 match op with
 | .add => arK E k (a + b) K
 | .sub => arK E k (a - b) K
 | .mul => arK E k (a * b) K
 | .quo => b ≠ 0 ∧ arK E k (a.tdiv b) K
 | .rem => b ≠ 0 ∧ K (.d (.int k (a.tmod b)))
 | .eql => K (.d (.bool (a == b)))
 | .neq => K (.d (.bool (a != b)))
 | .lss => K (.d (.bool (decide (a < b))))
 | .leq => K (.d (.bool (decide (a ≤ b))))
 | .gtr => K (.d (.bool (decide (b < a))))
 | .geq => K (.d (.bool (decide (b ≤ a))))
 | _ => False
def stK (op : BinOp) (a b : Bs) (K : LV → Prop) : Prop :=
 match op with
 | .add => a.length + b.length ≤ 9223372036854775807 ∧ K (.d (.st (a ++ b)))
 | .eql => K (.d (.bool (a == b)))
 | .neq => K (.d (.bool (!(a == b))))
 | _ => False
def iiK (E : Env) (op : BinOp) (k : IntKind) (a : Int) (k' : IntKind) (b : Int) (K : LV → Prop) : Prop :=
 match op with
 | .shl => 0 ≤ b ∧ K (.d (.int k (k.wrap (a * 2 ^ (min b.toNat k.bits)))))
 | .shr => 0 ≤ b ∧ K (.d (.int k (a.fdiv (2 ^ (min b.toNat k.bits)))))
 | _ => k = k' ∧ intK E op k a b K
def binK (E : Env) (op : BinOp) (t : TypeId) (x y : LV) (K : LV → Prop) : Prop :=
 match x, y with
 | .d (.int k a), .d (.int k' b) => iiK E op k a k' b K
 | .d (.st a), .d (.st b) => stK op a b K
 | .d (.bool a), .d (.bool b) => sm (E.ti t) fun i => i.desc = .boo ∧
   (match op with
   | .eql => K (.d (.bool (a == b)))
   | .neq => K (.d (.bool (!(a == b))))
   | _ => False)
 | _, _ => False
def eqK (op : BinOp) (r : Bool) (K : LV → Prop) : Prop := match op with
 | .eql => K (.d (.bool r))
 | .neq => K (.d (.bool (!r)))
 | _ => False
def isC : Operand → Bool
 | .const _ => true
 | _ => false
def TI.fields (i : TI) : List (Nat × TypeId) := match i.desc with
 | .st fs => fs
 | _ => []
def sEqK (d : Dk) (x y : D) (K : Bool → Prop) : Prop :=
 match d, x, y with
 | .int _, .int k1 a, .int k2 b => k1 = k2 ∧ K (a == b)
 | .str, .st a, .st b => K (a == b)
 | .boo, .bool a, .bool b => K (a == b)
 | _, _, _ => False
def fEqK (E : Env) (xs ys : List D) : List (Nat × TypeId) → (Bool → Prop) → Prop
 | [], K => K true
 | (o, t) :: fs, K => sm (E.ti t) fun i => sm xs[o]? fun x => sm ys[o]? fun y => sEqK i.desc x y fun r => fEqK E xs ys fs fun q => K (r && q)
def binC (E : Env) (c : Bool) (op : BinOp) (t : TypeId) (x y : LV) (K : LV → Prop) : Prop :=
 match x, y with
 | .d (.imm .nilIface), .d (.imm .nilIface) => c = true ∧ sm (E.ti t) fun i => i.desc = .ifc ∧ eqK op true K
 | .d (.ifc _ _), .d (.imm .nilIface) => sm (E.ti t) fun i => i.desc = .ifc ∧ eqK op false K
 | .d (.imm .nilIface), .d (.ifc _ _) => sm (E.ti t) fun i => i.desc = .ifc ∧ eqK op false K
 | .d (.ifc t1 (.int k a)), .d (.ifc t2 (.int k' b)) => sm (E.ti t) fun i => i.desc = .ifc ∧ t1 = t2 ∧ k = k' ∧ sm (E.ti t1) fun j => j.desc = .int k ∧ j.cmp = true ∧ eqK op (a == b) K
 | .d (.ag xs), .d (.ag ys) => sm (E.ti t) fun i => i.cmp = true ∧ i.desc = .st i.fields ∧ fEqK E xs ys i.fields fun r => eqK op r K
 | x, y => binK E op t x y K
def D.asl (sz : Nat) : D → Option (List D × Bool)
 | .sl sz' xs f => if sz' = sz then some (xs, f) else none
 | .imm (.slice none 0 0) => some ([], true)
 | _ => none
def TI.str (i : TI) : Bool := match i.desc with
 | .st _ => true
 | _ => false
def fldOff (i : TI) (f : Nat) : Option (Nat × TypeId) := i.fields[f]?
def ixK (E : Env) (s : S) (t : TypeId) (x : LV) (i : Int) (K : LV → Prop) : Prop :=
 sm (E.ti t) fun ti =>
 match ti.desc with
 | .sli e => sm (E.ti e) fun te =>
   match x with
   | .os r sz n => sm (s.ar r) fun a => n = a.2.2.length ∧ sz = te.size ∧ 0 ≤ i ∧ i < n ∧ K (.ap r sz n i.toNat 0)
   | .d x => sm (x.asl te.size) fun p => 0 ≤ i ∧ i < p.1.length ∧ ∀ y, p.1[i.toNat]? = some y → K (.ep y 0)
   | _ => False
 | .arr n e => sm (E.ti e) fun te =>
   match x with
   | .bp k off => 0 ≤ i ∧ i < n ∧ K (.bp k (off + i.toNat * te.size))
   | _ => False
 | _ => False
def idxK (E : Env) (t : TypeId) (x : LV) (i : Int) (K : LV → Prop) : Prop :=
 sm (E.ti t) fun ti =>
 match ti.desc with
 | .str => match x with
   | .d (.st b) => 0 ≤ i ∧ i < b.length ∧ ∀ c, b[i.toNat]? = some c → K (.d (.int .u8 c.toNat))
   | _ => False
 | .arr n e => sm (E.ti e) fun te => sm (qqp x) fun xs => 0 ≤ i ∧ i < n ∧ sm (prt te (i.toNat * te.size) xs) K
 | _ => False
def hiK (s : S) (len : Nat) (hi : Option Operand) (K : Nat → Prop) : Prop :=
 match hi with
 | none => K len
 | some o => sm (s.ev o) fun x => match x with
   | .d (.int _ n) => 0 ≤ n ∧ n ≤ len ∧ K n.toNat
   | _ => False
def loK (s : S) (u : Nat) (lo : Option Operand) (K : Nat → Prop) : Prop :=
 match lo with
 | none => K 0
 | some o => sm (s.ev o) fun x => match x with
   | .d (.int _ n) => 0 ≤ n ∧ n ≤ u ∧ K n.toNat
   | _ => False
def bndK (s : S) (len : Nat) (lo hi : Option Operand) (K : Nat → Nat → Prop) : Prop := hiK s len hi fun u => loK s u lo fun l => K l u
def slcK (E : Env) (s : S) (t : TypeId) (x : LV) (lo hi : Option Operand) (K : LV → Prop) : Prop :=
 sm (E.ti t) fun ti =>
 match ti.desc with
 | .str => match x with
   | .d (.st b) => bndK s b.length lo hi fun l h => K (.d (.st ((b.take h).drop l)))
   | _ => False
 | .sli e => sm (E.ti e) fun te => match x with
   | .d x => sm (x.asl te.size) fun p => bndK s p.1.length lo hi fun l h => K (.d (.sl te.size ((p.1.take h).drop l) false))
   | _ => False
 | _ => False
def lenK (E : Env) (s : S) (t : TypeId) (x : LV) (K : LV → Prop) : Prop :=
 sm (E.ti t) fun ti =>
 match ti.desc with
 | .str => match x with
   | .d (.st b) => K (.d (.int .i64 b.length))
   | _ => False
 | .sli e => sm (E.ti e) fun te => match x with
   | .d x => sm (x.asl te.size) fun p => K (.d (.int .i64 p.1.length))
   | .os r _ n => sm (s.ar r) fun a => n = a.2.2.length ∧ K (.d (.int .i64 n))
   | _ => False
 | _ => False
def pcs (x : LV) : Option (List LV) := match qqp x with
 | some cs => some cs
 | none => if one x then some [x] else none
def fillP (place : Nat → Option (Nat × Nat)) (cells : List LV) : List (Nat × LV) → Option (List LV)
 | [] => some cells
 | (i, x) :: rest => match place i, pcs x with
   | some (off, size), some cs => if cs.length = size ∧ off + cs.length ≤ cells.length then fillP place (cells.take off ++ cs ++ cells.drop (off + cs.length)) rest else none
   | _, _ => none
def S.evs (s : S) : List (Nat × Operand) → Option (List (Nat × LV))
 | [] => some []
 | (i, o) :: r => match s.ev o, s.evs r with
   | some x, some xs => some ((i, x) :: xs)
   | _, _ => none
def vcs (v : Value) : List LV := match cv v with
 | .d x => x.lcs
 | x => [x]
def place (E : Env) (i : TI) (n : Nat) : Option (Nat × Nat) := (i.fields[n]?).bind fun p => (E.ti p.2).map fun fi => (p.1, fi.size)
def bldK (E : Env) (s : S) (t : TypeId) (parts : List (Nat × Operand)) (K : LV → Prop) : Prop :=
 sm (E.ti t) fun ti => sm (s.evs parts) fun ps =>
 if ti.str then (ti.fields.all fun p => (E.ti p.2).isSome) = true ∧ sm (fillP (place E ti) (vcs ti.zero) ps) fun cs => K (mk cs)
 else match ti.desc with
 | .arr _ e => sm (E.ti e) fun te => sm (fillP (fun i => some (i * te.size, te.size)) (vcs ti.zero) ps) fun cs => K (mk cs)
 | _ => False
def LV.tr : LV → Prop → Prop → Prop
 | .d (.bool b), p, q => (b = true → p) ∧ (b = false → q)
 | _, _, _ => False
def addrK (t : TypeId) (K : LV → Prop) : Prop := ∀ a : Addr, K (.d (.ifc t (.imm (.pointer (some a)))))
def gloK (K : LV → Prop) : Prop := ∀ v : Value, v.oneCell' = true → K (.d (.imm v))
def ldA (s : S) (i : TI) (a : Operand) (K : LV → Prop) : Prop := match a with
 | .global n => n = gErr ∧ i.agg = false ∧ gloK K
 | a => sm (s.ev a) fun x => ldK s i x K
def taK (t : TypeId) (i : TI) (ok : Bool) (x : LV) (K : LV → Prop) : Prop :=
 match i.desc, x with
 | .ifc, _ => False
 | _, .d (.ifc t' y) => (t' = t → K (if ok then .tup [.d y, .d (.bool true)] else .d y)) ∧ (t' ≠ t → ok = true ∧ K (.tup [cv i.zero, .d (.bool false)]))
 | _, .d (.imm .nilIface) => ok = true ∧ K (.tup [cv i.zero, .d (.bool false)])
 | _, _ => False
def mmK (g : Bool) (x y : LV) (K : LV → Prop) : Prop :=
 match x, y with
 | .d (.int k a), .d (.int k' b) => k = k' ∧ K (.d (.int k (match g with | true => if a < b then b else a | false => if b < a then b else a)))
 | _, _ => False
def valK (E : Env) (op : Op) (s : S) (K : LV → Prop) : Prop :=
 match op with
 | .move x | .assign x => sm (s.ev x) K
 | .pick c a b => sm (s.ev c) fun c => c.tr (sm (s.ev a) K) (sm (s.ev b) K)
 | .build t ps => bldK E s t ps.toList K
 | .load t a => sm (E.ti t) fun i => ldA s i a K
 | .nilCheck x => sm (s.ev x) fun x => match x with
   | .bp _ _ | .ep _ _ | .fn (.func _) _ _ => K x
   | _ => False
 | .binOp op t x y _ => sm (s.ev x) fun u => sm (s.ev y) fun v => binC E (isC x || isC y) op t u v K
 | .unOp op _ x => sm (s.ev x) fun x => match op, x with
   | .not, .d (.bool b) => K (.d (.bool (!b)))
   | .neg, .d (.int k n) => arK E k (0 - n) K
   | _, _ => False
 | .convert src dst x => sm (E.ti src) fun _ => sm (E.ti dst) fun j => sm (s.ev x) fun x => match j.desc, x with
   | .int k, .d (.int _ n) => arK E k n K
   | _, _ => False
 | .makeInterface t x => sm (E.ti t) fun i => sm (s.ev x) fun x => match i.desc, x with
   | .ifc, _ => False
   | _, .d x => K (.d (.ifc t x))
   | _, .bp _ _ => addrK t K
   | _, _ => False
 | .makeFunc f xs ys => sm (s.evs (xs.toList.map fun x => (0, x))) fun xs => sm (s.evs (ys.toList.map fun x => (0, x))) fun ys => K (.fn f (xs.map (·.2)) (ys.map (·.2)))
 | .fieldAddr t x f => sm (E.ti t) fun i => sm (fldOff i f) fun p => sm (E.ti p.2) fun fi => fi.size ≠ 0 ∧ sm (s.ev x) fun x => match x with
   | .bp k off => K (.bp k (off + p.1))
   | .ep x off => K (.ep x (off + p.1))
   | .ap r sz n j o => sm (s.ar r) fun a => n = a.2.2.length ∧ K (.ap r sz n j (o + p.1))
   | _ => False
 | .field t x f => sm (E.ti t) fun i => sm (fldOff i f) fun p => sm (E.ti p.2) fun fi => sm (s.ev x) fun x => sm (qqp x) fun cs => sm (prt fi p.1 cs) K
 | .indexAddr t x i => sm (s.ev x) fun x => sm (s.ev i) fun i => match i with
   | .d (.int _ i) => ixK E s t x i K
   | _ => False
 | .index t x i => sm (s.ev x) fun x => sm (s.ev i) fun i => match i with
   | .d (.int _ i) => idxK E t x i K
   | _ => False
 | .slice t x lo hi none => sm (s.ev x) fun x => slcK E s t x lo hi K
 | .extract x i => sm (s.ev x) fun x => match x with
   | .tup xs => sm xs[i]? K
   | _ => False
 | .typeAssert x _ t ok => sm (E.ti t) fun i => sm (s.ev x) fun x => taK t i ok x K
 | .call { callee := .builtin .len, args, argTypes } => match args.toList, argTypes.toList with
   | [x], [t] => sm (s.ev x) fun x => lenK E s t x K
   | _, _ => False
 | .call { callee := .builtin .max, args, argTypes := _ } => match args.toList with
   | [x, y] => sm (s.ev x) fun x => sm (s.ev y) fun y => mmK true x y K
   | _ => False
 | .call { callee := .builtin .min, args, argTypes := _ } => match args.toList with
   | [x, y] => sm (s.ev x) fun x => sm (s.ev y) fun y => mmK false x y K
   | _ => False
 | _ => False
theorem qkl {P : Program} {t : TypeId} {i : TypeInfo} (h : P.info? t = some i) (w : World) : (typeInfo t).run P w = .ok i w := by
 simp [typeInfo, h]
theorem zxp {P : Program} {t : TypeId} {d : TypeDesc} (h : P.underlying t = some d) (w : World) : (underlying t).run P w = .ok d w := by
 simp [underlying, h]
theorem TOK.sizeOf {P : Program} {tl : List (Nat × TI)} (h : TOK P tl) {t : TypeId} {i : TI} (hi : lkp t tl = some i) (w : World) : (Go.sizeOf t).run P w = .ok i.size w := by
 obtain ⟨info, d, h1, h2, _⟩ := h t i (qqy hi)
 simp [Go.sizeOf, qkl h1, h2]
theorem TOK.und {P : Program} {tl : List (Nat × TI)} (h : TOK P tl) {t : TypeId} {i : TI} (hi : lkp t tl = some i) : ∃ d, dk d = i.desc ∧ ∀ w, (underlying t).run P w = .ok d w := by
 obtain ⟨info, d, _, _, _, _, h5, h6, _⟩ := h t i (qqy hi)
 exact ⟨d, h6, zxp h5⟩
theorem TOK.zero {P : Program} {tl : List (Nat × TI)} (h : TOK P tl) {t : TypeId} {i : TI} (hi : lkp t tl = some i) (w : World) : (zeroValue t).run P w = .ok i.zero w := by
 obtain ⟨info, d, h1, _, _, h4, _⟩ := h t i (qqy hi)
 simp [zeroValue, qkl h1, h4]
theorem TOK.isAgg {P : Program} {tl : List (Nat × TI)} (h : TOK P tl) {t : TypeId} {i : TI} (hi : lkp t tl = some i) (w : World) : (Go.isAgg t).run P w = .ok i.agg w := by
 obtain ⟨d, hd, hu⟩ := h.und hi
 unfold Go.isAgg TI.agg
 rw [← hd]
 simp only [Sem.run_bind, hu, Result.andThen_ok]
 cases d <;> simp [dk]
theorem Addr.add_none (b o n : Nat) : (⟨b, o, none⟩ : Addr).add n = ⟨b, o + n, none⟩ := by
 unfold Addr.add; split <;> simp_all
theorem qvd {P : Program} {tl : List (Nat × TI)} (h : TOK P tl) {t : TypeId} {i : TI} (hi : lkp t tl = some i) (w : World) (b o : Nat) (cs : List Value)
  (hc : ∀ j v, cs[j]? = some v → w.cell? ⟨b, o + j, none⟩ = some v) (hl : i.agg = true → i.size ≤ cs.length) (h1 : i.agg = false → 0 < cs.length) :
  (loadVar t ⟨b, o, none⟩).run P w = .ok (if i.agg then .agg (cs.take i.size).toArray else cs.getD 0 undef) w := by
 unfold loadVar
 simp only [Sem.run_bind, h.isAgg hi, Result.andThen_ok]
 cases ha : i.agg with
 | true =>
   simp only [if_true, Sem.run_bind, h.sizeOf hi, Result.andThen_ok]
   have := run_loadCells_list (P := P) w ⟨b, o, none⟩ (cs.take i.size) (fun j v hj => by
    rw [Addr.add_none]
    rw [List.getElem?_take] at hj
    split at hj
    · exact hc j v hj
    · cases hj)
   rw [List.length_take, Nat.min_eq_left (hl ha)] at this
   simp [this]
 | false =>
   have h0 := h1 ha
   cases cs with
   | nil => simp at h0
   | cons c cs =>
     have := hc 0 c rfl
     simp only [Nat.add_zero] at this
     simp [this]
theorem prt_rp {g : Gh} {i : TI} {off : Nat} {xs : List LV} {vs : List Value} (h : LRps g xs vs) {x : LV} (hx : prt i off xs = some x) :
  (i.agg = true → off + i.size ≤ vs.length) ∧ (i.agg = false → off < vs.length) ∧ LRp g x (if i.agg then .agg ((vs.drop off).take i.size).toArray else (vs.drop off).getD 0 undef) := by
 unfold prt at hx
 cases ha : i.agg with
 | true =>
   simp only [ha, if_true, h.length] at hx
   split at hx
   · rename_i hle
     simp only [Option.some.injEq] at hx
     subst hx
     refine ⟨fun _ => hle, fun e => (by cases e), ?_⟩
     simpa using mk_rp ((h.drop off).take i.size)
   · cases hx
 | false =>
   simp only [ha, Bool.false_eq_true, if_false] at hx
   obtain ⟨v, hv, hp⟩ := h.get hx
   have hlt : off < vs.length := by
    rcases Nat.lt_or_ge off vs.length with h' | h'
    · exact h'
    · rw [List.getElem?_eq_none h'] at hv; cases hv
   refine ⟨fun e => (by cases e), fun _ => hlt, ?_⟩
   have : (vs.drop off).getD 0 undef = v := by simp [List.getD, hv]
   simp only [Bool.false_eq_true, if_false]
   rw [this]
   exact hp
theorem D.lcs_rp {g : Gh} {x : D} {v : Value} (h : Rp g.Φ x v) (hf : x.flat = true) : LRps g x.lcs v.cells.toList := by
 cases x with
 | ag xs => cases h with | ag h => exact (by simpa [D.lcs, Value.cells] using LRps.ofD h)
 | imm y =>
   cases h
   rw [qkt (by simpa [D.flat] using hf)]
   exact .cons (.d (.imm _)) .nil
 | int | bool | st | sl | ifc =>
   have e : v.oneCell' = true := by cases h <;> rfl
   rw [qkt e]
   exact .cons (.d h) .nil
theorem zvc {P : Program} {tl : List (Nat × TI)} (ht : TOK P tl) {t : TypeId} {i : TI} (hi : lkp t tl = some i) {g : Gh} {w : World} {b o off : Nat} {xs : List LV} {vs : List Value}
  (h : LRps g xs vs) (hc : ∀ j v, vs[j]? = some v → w.cell? ⟨b, o + j, none⟩ = some v) {y : LV} (hy : prt i off xs = some y) :
  ∃ u, LRp g y u ∧ (Instr.loadAt t (.pointer (some ⟨b, o + off, none⟩))).run P w = .ok u w := by
 obtain ⟨h1, h2, h3⟩ := prt_rp h hy
 refine ⟨_, h3, ?_⟩
 simp only [Instr.loadAt, Instr.sureAddr, Sem.run_bind, Sem.run_pure, Result.andThen_ok]
 have := qvd ht hi w b (o + off) (vs.drop off) (fun j v hj => ?_) (fun ha => ?_) (fun ha => ?_)
 · rw [this]
 · rw [List.getElem?_drop] at hj
   have := hc _ _ hj
   rwa [← Nat.add_assoc] at this
 · have := h1 ha
   simp; omega
 · have := h2 ha
   simp; omega
theorem zws {P : Program} {tl : List (Nat × TI)} (ht : TOK P tl) {t : TypeId} {i : TI} (hi : lkp t tl = some i) {g : Gh} {b o off : Nat} {xs : List LV} {vs : List Value}
  (h : LRps g xs vs) {y : LV} (hy : prt i off xs = some y) :
  ∃ u, LRp g y u ∧ ∀ w : World, (∀ j v, vs[j]? = some v → w.cell? ⟨b, o + j, none⟩ = some v) → (Instr.loadAt t (.pointer (some ⟨b, o + off, none⟩))).run P w = .ok u w := by
 obtain ⟨h1, h2, h3⟩ := prt_rp h hy
 refine ⟨_, h3, fun w hc => ?_⟩
 simp only [Instr.loadAt, Instr.sureAddr, Sem.run_bind, Sem.run_pure, Result.andThen_ok]
 have := qvd ht hi w b (o + off) (vs.drop off) (fun j v hj => ?_) (fun ha => ?_) (fun ha => ?_)
 · rw [this]
 · rw [List.getElem?_drop] at hj
   have := hc _ _ hj
   rwa [← Nat.add_assoc] at this
 · have := h1 ha
   simp; omega
 · have := h2 ha
   simp; omega
theorem ldE_run {P : Program} {tl : List (Nat × TI)} (ht : TOK P tl) {t : TypeId} {i : TI} (hi : lkp t tl = some i) {g : Gh} {s : S} {x : D} {off : Nat} {v : Value} (hx : LRp g (.ep x off) v) {K : LV → Prop} (h : ldK s i (.ep x off) K) :
  ∃ y u, K y ∧ LRp g y u ∧ ∀ w : World, (∀ b o v, g.Φ b o = some v → w.cell? ⟨b, o, none⟩ = some v) → (Instr.loadAt t v).run P w = .ok u w := by
 cases hx with
 | ep b o off hx hc =>
   obtain ⟨hf, y, hy, hK⟩ := h
   obtain ⟨u, hu, hr⟩ := zws ht hi (b := b) (o := o) (D.lcs_rp hx hf) hy
   exact ⟨y, u, hK, hu, fun w hw => hr w fun j v hj => hw _ _ _ (hc j v (by simpa using hj))⟩
theorem ldK_run {P : Program} {tl : List (Nat × TI)} (ht : TOK P tl) {t : TypeId} {i : TI} (hi : lkp t tl = some i) {g : Gh} {s : S} {w : World} (hw : Wd g s.bx s.ar w)
  {x : LV} {v : Value} (hx : LRp g x v) {K : LV → Prop} (h : ldK s i x K) : ∃ y u, K y ∧ LRp g y u ∧ (Instr.loadAt t v).run P w = .ok u w := by
 cases x with
 | bp k off =>
   cases hx
   obtain ⟨b, hb, hty, y, hy, hK⟩ := h
   obtain ⟨vs, hvs, hh, _⟩ := hw.box k b hb
   rw [qqx hty] at hh
   obtain ⟨u, hu, hr⟩ := zvc ht hi (w := w) (b := g.β k) (o := 0) hvs (fun j v hj => by simpa [World.cell?, hh] using hj) hy
   exact ⟨y, u, hK, hu, by simpa using hr⟩
 | ep x off =>
   cases hx with
   | ep b o off hx hc =>
     obtain ⟨hf, y, hy, hK⟩ := h
     obtain ⟨u, hu, hr⟩ := zvc ht hi (w := w) (b := b) (o := o) (D.lcs_rp hx hf) (fun j v hj => (hw.fix _ _ _ (hc j v (by simpa using hj))).1) hy
     exact ⟨y, u, hK, hu, hr⟩
 | ap r sz n j o =>
   cases hx with
   | ap h1 hp =>
     obtain ⟨a, ha, h1, h2, h3, h4⟩ := h
     obtain ⟨sz', ty, xs⟩ := a
     simp only at h1 h2 h3 h4
     subst h1
     obtain ⟨us, c, hus, hh, hcs, hle, hsz, _, hel⟩ := hw.arr r sz' ty xs ha
     have hlen := hw.len r
     rw [ha] at hlen
     have hv := (hp _ hlen).2 h2
     subst hv
     have hj : j < xs.length := h2 ▸ h3
     obtain ⟨u, hu, hru⟩ := hus.get (List.getElem?_eq_getElem hj)
     obtain ⟨hf, y, hy, hK⟩ := h4 _ (List.getElem?_eq_getElem hj)
     obtain ⟨hus1, _, hus2⟩ := hel j u hu
     obtain ⟨u', hu', hr⟩ := zvc ht hi (w := w) (b := (g.α r).1) (o := j * sz') (D.lcs_rp hru hf) (fun k v hk => by
      simpa [World.cell?, hh] using hus2 k v (by simpa using hk)) hy
     exact ⟨y, u', hK, hu', hr⟩
 | _ => exact h.elim
end Lx
