/- The reckoner: memory, calls, code. -/
import Derived.Test.YtknmbmdeilbdkaaGreatDoorEvW
namespace Go.Proofs.YtknmbmdeilbdkaaGreatDoor.Ev
open Go

/-- Cells from a place on. -/
noncomputable def setC (cells : Tr AV) (off : Nat) (l : List AV) : Tr AV :=
  List.rec (fun c _ => c) (fun a _ ih c off => fN (off + 1) fun o => ih (c.set off a) o) l cells off
theorem setC_nil (cells : Tr AV) (off : Nat) : setC cells off [] = cells := rfl
theorem setC_cons (cells : Tr AV) (off : Nat) (a : AV) (l : List AV) : setC cells off (a :: l) = setC (cells.set off a) (off + 1) l := fN_eq (off + 1) (fun o => setC (cells.set off a) o l)
noncomputable def getC (cells : Tr AV) (off n : Nat) : Option (List AV) :=
  Nat.rec (fun _ => some []) (fun _ ih off => match cells.get off with
    | none => none
    | some a => match fN (off + 1) ih with
      | none => none
      | some l => some (a :: l)) n off
theorem getC_zero (cells : Tr AV) (off : Nat) : getC cells off 0 = some [] := rfl
theorem getC_succ (cells : Tr AV) (off n : Nat) : getC cells off (n + 1) = match cells.get off with
    | none => none
    | some a => match getC cells (off + 1) n with
      | none => none
      | some l => some (a :: l) := by
  show (match cells.get off with
    | none => none
    | some a => match fN (off + 1) (fun o => getC cells o n) with
      | none => none
      | some l => some (a :: l)) = _
  rw [fN_eq]
/-- A value that one cell holds. -/
def one : AV → Bool
  | .agg _ | .tup _ | .any => false
  | _ => true
noncomputable def rdC (H : Tr AB) (b off n : Nat) : Option (List AV) :=
  match H.get b with
  | some (.row _ _ _ cells _ _ _) => getC cells off n
  | some (.glob _ cells) => getC cells off n
  | _ => none
noncomputable def wrC (H : Tr AB) (b off : Nat) (l : List AV) : Option (Tr AB) :=
  match H.get b with
  | some (.row ty sz n cells opn false fz) => match Nat.ble (off + l.length) n && (Nat.ble fz off && l.all one) with
    | true => some (H.set b (.row ty sz n (setC cells off l) opn false fz))
    | false => none
  | _ => none
noncomputable def newB (H : Tr AB) (c ty sz : Nat) (l : List AV) (opn : Bool) (fz : Nat) : Tr AB :=
  fN l.length fun n => H.set c (.row ty sz n (setC .e 0 l) opn false fz)
theorem newB_eq (H : Tr AB) (c ty sz : Nat) (l : List AV) (opn : Bool) (fz : Nat) : newB H c ty sz l opn fz = H.set c (.row ty sz l.length (setC .e 0 l) opn false fz) := fN_eq _ _
noncomputable def aload (P : Program) (H : Tr AB) (t : TypeId) (x : AV) : Option AV :=
  match x with
  | .ptr b off => match tagg P t with
    | none => none
    | some true => match tsize P t with
      | none => none
      | some s => match rdC H b off s with
        | none => none
        | some l => some (.agg l)
    | some false => match rdC H b off 1 with
      | some [a] => some a
      | _ => none
  | _ => none
noncomputable def astore (P : Program) (H : Tr AB) (t : TypeId) (x v : AV) : Option (Tr AB) :=
  match x, aCells v, tsize P t with
  | .ptr b off, some l, some s => match Nat.beq l.length s with
    | true => wrC H b off l
    | false => none
  | _, _, _ => none
def rep (z : List AV) : Nat → List AV
  | 0 => []
  | n + 1 => z ++ rep z n
/-- A value, memory, and the next name. -/
structure MR where
  v : AV
  H : Tr AB
  c : Nat
def strC (len code : Nat) : List AV := match len with
  | 0 => []
  | n + 1 => .int .u8 (.ofNat (code % 256)) :: strC n (code / 256)
/-- What append's second argument holds. -/
noncomputable def srcC (H : Tr AB) (size : Nat) (x : AV) : Option (List AV) :=
  match x with
  | .nils => some []
  | .sl b off n _ _ => rdC H b off (n * size)
  | .str len code => match Nat.beq size 1 with
    | true => some (strC len code)
    | false => none
  | _ => none
def srcN (x : AV) : Option Nat :=
  match x with
  | .nils => some 0
  | .sl _ _ n _ _ => some n
  | .str len _ => some len
  | _ => none
def tbytes (P : Program) (t : TypeId) : Option Nat := match P.info? t with | some i => some i.bytes | none => none
def isIntT (P : Program) (t : TypeId) : Option Bool := match P.underlying t with | some (.int _) => some true | some _ => some false | none => none
def telem (P : Program) (t : TypeId) : Option TypeId := match P.underlying t with | some (.slice e) => some e | _ => none
noncomputable def mkM (v : Option AV) (H : Tr AB) (c : Nat) : Option MR := match v with
  | none => none
  | some v => fN c fun c => some ⟨v, H, c⟩
theorem mkM_inv {v : Option AV} {H : Tr AB} {c : Nat} {r : MR} (h : mkM v H c = some r) : ∃ u, v = some u ∧ r = ⟨u, H, c⟩ := by
  unfold mkM at h
  split at h
  · cases h
  · rename_i u; rw [fN_eq] at h; cases h; exact ⟨u, rfl, rfl⟩
/-- append to a slice that has no room for sure. -/
noncomputable def appNew (H : Tr AB) (c e size : Nat) (cs : List AV) (n fz : Nat) : Option MR := mkM (mkS c 0 n n false) (newB H c e size cs true fz) (c + 1)
noncomputable def appSl (P : Program) (H : Tr AB) (c e size bytes b off len cap : Nat) (ex : Bool) (n : Nat) (new : List AV) : Option MR :=
  match Nat.ble (len + n) cap with
  | true => match wrC H b (off + len * size) new with
    | some H' => mkM (mkS b off (len + n) cap ex) H' c
    | none => none
  | false => match Nat.ble ((len + n) * bytes) 140737488355328 && (Nat.ble (len + n) 9223372036854775807 && Nat.ble len cap), rdC H b off (len * size) with
    | true, some old => match ex with
      | true => appNew H c e size (old ++ new) (len + n) 0
      | false => match Nat.beq off 0, H.get b with
        | true, some (.row ty sz k _ _ false fz) => match Nat.beq ty e && (Nat.beq sz size && (Nat.beq k (cap * size) && (Nat.ble fz (len * size) && new.all one))) with
          | true => appNew (H.del b) c e size (old ++ new) (len + n) fz
          | false => none
        | _, _ => none
    | _, _ => none
/-- append of n zero elements to no slice. -/
noncomputable def appZ (P : Program) (H : Tr AB) (c e : Nat) (s x : AV) : Option MR := match s, x, tzero P e, tbytes P e with
  | .nils, .int _ (.ofNat n), some z, some bytes => match Nat.blt 0 n && (Nat.ble (n * (bytes + 1)) 1000000 && Nat.blt 0 z.length) with
    | true => appNew H c e z.length (rep z n) n 0
    | false => none
  | _, _, _, _ => none
noncomputable def aappend (P : Program) (H : Tr AB) (c : Nat) (ts : List TypeId) (s x : AV) : Option MR :=
  match ts with
  | st :: xt :: _ => match isIntT P xt, telem P st with
    | some false, some e => match tzero P e, tbytes P e, srcN x with
      | some z, some bytes, some n => match srcC H z.length x with
        | none => none
        | some new => match s with
          | .nils => match Nat.beq n 0 with
            | true => mkM (some .nils) H c
            | false => match Nat.ble (n * bytes) 140737488355328 && Nat.ble n 9223372036854775807 with
              | true => appNew H c e z.length new n 0
              | false => none
          | .sl b off len cap ex => match Nat.beq n 0 with
            | true => match Nat.ble len cap with
              | true => mkM (some s) H c
              | false => none
            | false => appSl P H c e z.length bytes b off len cap ex n new
          | _ => none
      | _, _, _ => none
    | some true, some e => appZ P H c e s x
    | _, _ => none
  | _ => none
noncomputable def acopy (P : Program) (H : Tr AB) (c : Nat) (ts : List TypeId) (d x : AV) : Option MR :=
  match ts with
  | st :: _ => match telem P st with
    | none => none
    | some e => match tsize P e with
      | none => none
      | some size => match d, srcN x with
        | .nils, some _ => mkM (mkI .i64 0) H c
        | .sl b off len _ _, some n => match srcC H size x with
          | none => none
          | some l => match wrC H b off (l.take (min n len * size)) with
            | none => none
            | some H' => mkM (mkI .i64 (.ofNat (min n len))) H' c
        | _, _ => none
  | _ => none
def bytesOf : List AV → Option (Nat × Nat)
  | [] => some (0, 0)
  | .int .u8 (.ofNat b) :: l => match bytesOf l, Nat.blt b 256 with
    | some (n, code), true => some (n + 1, b + 256 * code)
    | _, _ => none
  | _ => none
/-- The bytes of a slice. -/
noncomputable def slC (H : Tr AB) (x : AV) : Option (List AV) := match x with
  | .nils => some []
  | .sl b off n _ _ => rdC H b off n
  | _ => none
noncomputable def amemConv (P : Program) (H : Tr AB) (c : Nat) (s d : TypeId) (x : AV) : Option MR :=
  match P.underlying s, P.underlying d, x with
  | some .string, some (.slice e), .str len code => match P.underlying e with
    | some (.int .u8) => mkM (mkS c 0 len len false) (newB H c e 1 (strC len code) true 0) (c + 1)
    | _ => none
  | some (.slice e), some .string, x => match P.underlying e with
    | some (.int .u8) => match slC H x with
      | none => none
      | some l => match bytesOf l with
        | none => none
        | some (n, code) => mkM (mkStr n code) H c
    | _ => none
  | some (.pointer t), some .unsafePointer, .ptr b off => match H.get b, tsize P t with
    | some (.row _ _ n _ _ _ _), some s => match Nat.blt off n && Nat.blt 0 s with
      | true => mkM (some (.ptr b off)) H c
      | false => none
    | _, _ => none
  | some .unsafePointer, some (.pointer u), .ptr b off => match H.get b, tsize P u with
    | some (.row ty _ n _ false _ _), some _ => match liesAt P P.depth ty (n / P.cellsOf ty) off u 1 with
      | true => mkM (some (.ptr b off)) H c
      | false => none
    | _, _ => none
  | _, _, _ => none
noncomputable def amAlloc (P : Program) (H : Tr AB) (c : Nat) (e : TypeId) : Option MR := match tzero P e with
  | none => none
  | some z => mkM (some (.ptr c 0)) (newB H c e 1 z false 0) (c + 1)
noncomputable def amBox (H : Tr AB) (c : Nat) (e : TypeId) (v : Option AV) : Option MR := match v with
  | none => none
  | some v => match aCells v with
    | none => none
    | some l => mkM (some (.ptr c 0)) (newB H c e 1 l false 0) (c + 1)
noncomputable def amBuildSlice (P : Program) (G : Nat) (T : Tr AV) (H : Tr AB) (c : Nat) (t : TypeId) (len : Nat) (ps : Array (Nat × Operand)) : Option MR := match telem P t, aparts G T ps.toList with
  | some e, some l => match P.info? e, tzero P e with
    | some ie, some z => match Nat.ble (len * ie.size) 16777216, afill (fun i => some (i * ie.size, ie.size)) (rep z len) l with
      | true, some cs => mkM (some (.sl c 0 len len true)) (newB H c e 1 cs false 0) (c + 1)
      | _, _ => none
    | _, _ => none
  | _, _ => none
noncomputable def amMakeSlice (P : Program) (G : Nat) (T : Tr AV) (H : Tr AB) (c : Nat) (t : TypeId) (l k : Operand) : Option MR := match telem P t, aOp G T l, aOp G T k with
  | some e, some l, some k => match anat l, anat k, tbytes P e, tzero P e with
    | some l, some k, some bytes, some z => match Nat.ble l k && Nat.ble (k * (bytes + 1)) 1000000 with
      | true => mkM (mkS c 0 l k true) (newB H c e 1 (rep z k) false 0) (c + 1)
      | false => none
    | _, _, _, _ => none
  | _, _, _ => none
noncomputable def amLoad (P : Program) (H : Tr AB) (c : Nat) (t : TypeId) (v : Option AV) : Option MR := match v with
  | none => none
  | some v => mkM (aload P H t v) H c
noncomputable def amStore (P : Program) (H : Tr AB) (c : Nat) (t : TypeId) (v u : Option AV) : Option MR := match v, u with
  | some v, some u => match astore P H t v u with
    | some H' => mkM (some (.tup [])) H' c
    | none => none
  | _, _ => none
noncomputable def amConv (P : Program) (H : Tr AB) (c : Nat) (s d : TypeId) (v : Option AV) : Option MR := match v with
  | none => none
  | some v => match aconv P s d v with
    | some u => mkM (some u) H c
    | none => amemConv P H c s d v
noncomputable def amApp (P : Program) (G : Nat) (T : Tr AV) (H : Tr AB) (c : Nat) (f : Program → Tr AB → Nat → List TypeId → AV → AV → Option MR) (xs : List Operand) (ts : List TypeId) : Option MR := match xs with
  | [s, x] => match aOp G T s, aOp G T x with
    | some v, some u => f P H c ts v u
    | _, _ => none
  | _ => none

noncomputable def amMakeMap (P : Program) (H : Tr AB) (c : Nat) (t : TypeId) : Option MR := match P.underlying t with
  | some (.map _ _) => mkM (some (.mp c)) (H.set c (.map [])) (c + 1)
  | _ => none
/-- Is a string none of a map's keys? -/
def noKey (la ca : Nat) : List (AV × AV) → Bool
  | [] => true
  | (.str lb cb, _) :: es => !(Nat.beq la lb && Nat.beq ca cb) && noKey la ca es
  | _ => false
/-- m[k] = v where k is a new string. -/
noncomputable def amMapUpdate (P : Program) (H : Tr AB) (c : Nat) (t : TypeId) (m k v : Option AV) : Option MR := match m, k, v with
  | some (.mp b), some (.str la ca), some v => match P.underlying t, H.get b with
    | some (.map kt _), some (.map es) => match P.underlying kt, noKey la ca es with
      | some .string, true => mkM (some (.tup [])) (H.set b (.map (es ++ [(.str la ca, v)]))) c
      | _, _ => none
    | _, _ => none
  | _, _, _ => none
noncomputable def amMapLen (P : Program) (H : Tr AB) (c : Nat) (ts : List TypeId) (x : AV) : Option MR := match x, ts with
  | .mp b, t :: _ => match P.underlying t, H.get b with
    | some (.map _ _), some (.map es) => mkM (mkI .i64 (.ofNat es.length)) H c
    | _, _ => none
  | _, _ => none

/-- unsafe.SliceData -/
noncomputable def amSliceData (H : Tr AB) (c : Nat) (v : Option AV) : Option MR := match v with
  | some .nils => mkM (some .nilp) H c
  | some (.sl b off _ cap _) => match Nat.blt 0 cap with
    | true => mkM (some (.ptr b off)) H c
    | false => none
  | _ => none
/-- unsafe.String -/
noncomputable def amString (P : Program) (H : Tr AB) (c : Nat) (ts : List TypeId) (x n : Option AV) : Option MR := match n, ts with
  | some (.int .i64 (.ofNat n)), [pt, _] => match Nat.beq n 0, x with
    | true, some .nilp => mkM (mkStr 0 0) H c
    | true, some (.ptr _ _) => mkM (mkStr 0 0) H c
    | false, some (.ptr b off) => match H.get b, P.underlying pt with
      | some (.row ty _ k cells _ false _), some (.pointer u) => match Nat.ble n k && (Nat.beq ty u && (Nat.beq off 0 && (Nat.beq (P.cellsOf ty) 1 && Nat.ble n 9223372036854775807))), getC cells 0 n with
        | true, some l => match bytesOf l with
          | some (n', code) => mkM (mkStr n' code) (H.del b) c
          | none => none
        | _, _ => none
      | _, _ => none
    | _, _ => none
  | _, _ => none

inductive AX where
  | norm
  | exit (id : Nat)
  | goto (l : Nat)
  | ret
/-- A frame's slots, memory, the next name, the marks of loops over functions. -/
structure St where
  T : Tr AV
  H : Tr AB
  c : Nat
  ms : List Nat
abbrev CodeF := Bool → Code → Nat → St → Option (AX × St)
abbrev CallF := Nat → List AV → Tr AB → Nat → Option MR
noncomputable def aput (N : Nat) (T : Tr AV) (d : Option Nat) (v : AV) : Option (Tr AV) :=
  match d with
  | none => some T
  | some d => match Nat.blt d N with
    | true => some (T.set d v)
    | false => none
/-- Is an operation's guard fulfilled? -/
noncomputable def awanted (ops : List Oper) (T : Tr AV) (o : Oper) : Option Bool :=
  match o.guard with
  | none => some true
  | some (j, want) => match nth ops j with
    | none => none
    | some g => match g.dst with
      | none => none
      | some d => match T.get d with
        | some (.bool b) => some (b == want)
        | some .any => none
        | some _ => some false
        | none => none
/-- A call of a function value. -/
noncomputable def amVal (G : Nat) (T : Tr AV) (rf rr : CallF) (H : Tr AB) (c : Nat) (f : Operand) (xs : List Operand) : Option MR :=
  match aOp G T f, aOps G T xs with
  | some (.fn g first captured), some l => rf g (first ++ l ++ captured) H c
  | some (.yld q), some l => rr q l H c
  | _, _ => none
noncomputable def amBuiltin (P : Program) (G : Nat) (T : Tr AV) (H : Tr AB) (c : Nat) (b : Builtin) (xs : List Operand) (ts : List TypeId) : Option MR :=
  match b with
  | .append => amApp P G T H c aappend xs ts
  | .copy => amApp P G T H c acopy xs ts
  | .len => match xs with
    | [x] => match aOp G T x with
      | some (.mp b) => amMapLen P H c ts (.mp b)
      | _ => mkM (abuiltin P G T .len xs ts) H c
    | _ => none
  | .unsafeSliceData => match xs with
    | [x] => amSliceData H c (aOp G T x)
    | _ => none
  | .unsafeString => match xs with
    | [x, n] => amString P H c ts (aOp G T x) (aOp G T n)
    | _ => none
  | b => mkM (abuiltin P G T b xs ts) H c
noncomputable def amCall (P : Program) (G : Nat) (rf rr : CallF) (T : Tr AV) (H : Tr AB) (c : Nat) (cl : Call) : Option MR :=
  match cl.callee with
  | .value f => amVal G T rf rr H c f cl.args.toList
  | .builtin b => amBuiltin P G T H c b cl.args.toList cl.argTypes.toList
  | _ => none
/-- What an operation does. -/
noncomputable def aexec (P : Program) (G : Nat) (rf rr : CallF) (T : Tr AV) (H : Tr AB) (c : Nat) (o : Op) : Option MR :=
  match o with
  | .call cl => amCall P G rf rr T H c cl
  | .load t x => amLoad P H c t (aOp G T x)
  | .store t x y => amStore P H c t (aOp G T x) (aOp G T y)
  | .alloc e => amAlloc P H c e
  | .box e x => amBox H c e (aOp G T x)
  | .buildSlice t len ps => amBuildSlice P G T H c t len ps
  | .makeSlice t l k => amMakeSlice P G T H c t l k
  | .convert s d x => amConv P H c s d (aOp G T x)
  | .makeMap t none => amMakeMap P H c t
  | .mapUpdate t m k x => amMapUpdate P H c t (aOp G T m) (aOp G T k) (aOp G T x)
  | .insert t m k x => amMapUpdate P H c t (aOp G T m) (aOp G T k) (aOp G T x)
  | o => mkM (apure P G T o) H c
noncomputable def putM (N : Nat) (T : Tr AV) (ms : List Nat) (d : Option Nat) (r : Option MR) : Option St :=
  match r with
  | none => none
  | some ⟨v, H, c⟩ => match aput N T d v with
    | none => none
    | some T' => some ⟨T', H, c, ms⟩
noncomputable def aoper (P : Program) (G : Nat) (rf rr : CallF) (N : Nat) (ops : List Oper) (o : Oper) (st : St) : Option St :=
  match st with
  | ⟨T, H, c, ms⟩ => match awanted ops T o with
    | none => none
    | some false => putM N T ms o.dst (some ⟨.tup [], H, c⟩)
    | some true => putM N T ms o.dst (aexec P G rf rr T H c o.op)
noncomputable def aops (P : Program) (G : Nat) (rf rr : CallF) (N : Nat) (ops : List Oper) (l : List Oper) : St → Option St :=
  List.rec (fun st => some st) (fun o _ ih st => match aoper P G rf rr N ops o st with
    | none => none
    | some st' => ih st') l
/-- A reading to be looked at again: what is read of memory, what it gave, behind which writings it may come up. -/
structure RdE where
  f : Tr AB → Option AV
  v : AV
  lo : Nat
  hi : Nat
/-- A region that draws its order, on the way: memory behind the writing operations; new blocks that no writing operation is surely behind; memory at all stages (the last one first); readings that may come up earlier or later. -/
structure DS where
  T : Tr AV
  H : Tr AB
  c : Nat
  pa : List (Nat × Nat × AB)
  outs : List (Tr AB)
  rds : List RdE
noncomputable def dabsH (b : Nat) (pa : List (Nat × Nat × AB)) : Tr AB → Tr AB := List.rec (fun H => H) (fun p _ ih H => match bit b p.1 with
  | true => ih (H.set p.2.1 p.2.2)
  | false => ih H) pa
noncomputable def dabsP (b : Nat) (pa : List (Nat × Nat × AB)) : List (Nat × Nat × AB) := List.rec [] (fun p _ ih => match bit b p.1 with
  | true => ih
  | false => p :: ih) pa
noncomputable def dall (pa : List (Nat × Nat × AB)) : Tr AB → Tr AB := List.rec (fun H => H) (fun p _ ih H => ih (H.set p.2.1 p.2.2)) pa
noncomputable def dquiet (P : Program) (G : Nat) (rf rr : CallF) (N : Nat) (i : Nat) (o : Oper) (s : DS) : Option DS := match aexec P G rf rr s.T .e s.c o.op with
  | none => none
  | some ⟨v, H1, c1⟩ => match aput N s.T o.dst v with
    | none => none
    | some T' => match Nat.beq c1 s.c with
      | true => some ⟨T', s.H, s.c, s.pa, s.outs, s.rds⟩
      | false => match Nat.beq c1 (s.c + 1), H1.get s.c with
        | true, some x => some ⟨T', s.H, c1, (i, s.c, x) :: s.pa, s.outs, s.rds⟩
        | _, _ => none
noncomputable def dreads (P : Program) (G : Nat) (rf rr : CallF) (T : Tr AV) (c : Nat) (o : Op) (H : Tr AB) : Option AV := match aexec P G rf rr T H c o with
  | some ⟨v, _, _⟩ => some v
  | none => none
noncomputable def dread (P : Program) (G : Nat) (rf rr : CallF) (N : Nat) (oi : OI) (o : Oper) (s : DS) : Option DS := match dreads P G rf rr s.T s.c o.op s.H with
  | none => none
  | some v => match aput N s.T o.dst v with
    | none => none
    | some T' => some ⟨T', s.H, s.c, s.pa, s.outs, match Nat.beq oi.lo oi.hi with
      | true => s.rds
      | false => ⟨dreads P G rf rr s.T s.c o.op, v, oi.lo, oi.hi⟩ :: s.rds⟩
noncomputable def dloud (P : Program) (G : Nat) (rf rr : CallF) (N : Nat) (oi : OI) (o : Oper) (s : DS) (Ha : Tr AB) : Option DS := match aexec P G rf rr s.T Ha s.c o.op with
  | none => none
  | some ⟨v, H2, c2⟩ => match aput N s.T o.dst v with
    | none => none
    | some T' => some ⟨T', H2, c2, dabsP oi.b s.pa, H2 :: s.outs, s.rds⟩
noncomputable def dskip (N : Nat) (o : Oper) (s : DS) : Option DS := match aput N s.T o.dst (.tup []) with
  | none => none
  | some T' => some ⟨T', s.H, s.c, s.pa, s.outs, s.rds⟩
noncomputable def dskipL (N : Nat) (oi : OI) (o : Oper) (s : DS) (Ha : Tr AB) : Option DS := match aput N s.T o.dst (.tup []) with
  | none => none
  | some T' => some ⟨T', Ha, s.c, dabsP oi.b s.pa, Ha :: s.outs, s.rds⟩
noncomputable def dstep (P : Program) (G : Nat) (rf rr : CallF) (N : Nat) (ops : List Oper) (i : Nat) (oi : OI) (o : Oper) (s : DS) : Option DS := match awanted ops s.T o with
  | none => none
  | some true => match dkind P o.op with
    | .quiet => dquiet P G rf rr N i o s
    | .read => dread P G rf rr N oi o s
    | .loud => dloud P G rf rr N oi o s (dabsH oi.b s.pa s.H)
  | some false => match dkind P o.op with
    | .loud => dskipL N oi o s (dabsH oi.b s.pa s.H)
    | _ => dskip N o s
noncomputable def dops (P : Program) (G : Nat) (rf rr : CallF) (N : Nat) (ops : List Oper) (l : List Oper) : List OI → Nat → DS → Option DS :=
  List.rec (fun _ _ s => some s) (fun o _ ih ois i s => match ois with
    | [] => none
    | oi :: ois => match dstep P G rf rr N ops i oi o s with
      | none => none
      | some s' => fN (i + 1) fun i' => ih ois i' s') l
noncomputable def rdAll (e : RdE) : List (Tr AB) → Nat → Bool
  | _, 0 => true
  | [], _ + 1 => false
  | H :: l, n + 1 => (match e.f H with
    | some v => avEq 4 v e.v
    | none => false) && rdAll e l n
noncomputable def rdsOk (outs : List (Tr AB)) : List RdE → Bool
  | [] => true
  | e :: es => rdAll e (outs.reverse.drop e.lo) (e.hi + 1 - e.lo) && rdsOk outs es
noncomputable def dend (ms : List Nat) (s : DS) : Option (AX × St) := match rdsOk s.outs s.rds with
  | true => some (.norm, ⟨s.T, dall s.pa s.H, s.c, ms⟩)
  | false => none
/-- A region whose two last stores are not ordered: they lie in blocks that are apart. -/
noncomputable def cFork (P : Program) (G : Nat) (rf rr : CallF) (ops : List Oper) (N : Nat) (st : St) (ois : List OI) (la lb : Nat) : Option (AX × St) := match nth ops la, nth ops lb with
  | some oa, some ob => match oa.op, ob.op, oa.guard, ob.guard with
    | .store _ xa _, .store _ xb _, none, none => match dops P G rf rr N ops (ops.take la) ois 0 ⟨st.T, st.H, st.c, [], [st.H], []⟩ with
      | none => none
      | some sa => match dops P G rf rr N ops ((ops.drop la).take (lb - la)) (ois.drop la) la sa with
        | none => none
        | some sb => match aOp G sa.T xa, aOp G sb.T xb, sa.pa, sb.pa with
          | some (.ptr x _), some (.ptr y _), [], [] => match Nat.beq x y with
            | true => none
            | false => match dops P G rf rr N ops (ops.drop lb) (ois.drop lb) lb sb with
              | none => none
              | some s => dend st.ms s
          | _, _, _, _ => none
    | _, _, _, _ => none
  | _, _ => none
noncomputable def cDraw (P : Program) (G : Nat) (rf rr : CallF) (ops : List Oper) (N : Nat) (st : St) : Option (AX × St) := match dinfo P ops with
  | none => none
  | some (ois, some (la, lb)) => cFork P G rf rr ops N st ois la lb
  | some (ois, none) => match dops P G rf rr N ops ops ois 0 ⟨st.T, st.H, st.c, [], [st.H], []⟩ with
    | none => none
    | some s => dend st.ms s
noncomputable def aresult (P : Program) (T : Tr AV) (H : Tr AB) : List ResultVar → Option (List AV)
  | [] => some []
  | .tmp t :: rs => match T.get t, aresult P T H rs with
    | some v, some l => some (v :: l)
    | _, _ => none
  | .cell a t :: rs => match T.get a with
    | none => none
    | some p => match aload P H t p, aresult P T H rs with
      | some v, some l => some (v :: l)
      | _, _ => none
noncomputable def aresults (P : Program) (fn : Func) (T : Tr AV) (H : Tr AB) : Option AV :=
  match aresult P T H fn.results.toList with
  | none => none
  | some [v] => some v
  | some l => some (.tup l)
def noGo : String := "runtime.NumGoroutine"
/-- A function with a body. -/
noncomputable def afunc (P : Program) (f : Nat) : Option Func :=
  match nth P.funcs.toList f with
  | none => none
  | some fn => match fn.name == noGo with
    | true => none
    | false => some fn
noncomputable def setParams (N : Nat) (T : Tr AV) : List Nat → List AV → Option (Tr AV)
  | [], [] => some T
  | p :: ps, v :: vs => match aput N T (some p) v with
    | none => none
    | some T' => setParams N T' ps vs
  | _, _ => none
noncomputable def aloop (f : St → Option (AX × St)) (n : Nat) : St → Option (AX × St) :=
  Nat.rec (fun _ => none) (fun _ ih st => match f st with
    | some (.norm, st') => ih st'
    | r => r) n
noncomputable def cSeq (rc : CodeF) (rd : Bool) (a b : Code) (N : Nat) (st : St) : Option (AX × St) := match rc rd a N st with
  | some (.norm, st') => rc rd b N st'
  | r => r
noncomputable def cCond (G : Nat) (rc : CodeF) (rd : Bool) (x : Operand) (a b : Code) (N : Nat) (st : St) : Option (AX × St) := match aOp G st.T x with
  | some (.bool true) => rc rd a N st
  | some (.bool false) => rc rd b N st
  | _ => none
noncomputable def cBlock (rc : CodeF) (rd : Bool) (id : Nat) (body : Code) (N : Nat) (st : St) : Option (AX × St) := match rc rd body N st with
  | some (.exit i, st') => match Nat.beq i id with
    | true => some (.norm, st')
    | false => some (.exit i, st')
  | r => r
noncomputable def cRegion (P : Program) (G : Nat) (rf rr : CallF) (ops : List Oper) (N : Nat) (st : St) : Option (AX × St) := match aops P G rf rr N ops ops st with
  | none => none
  | some st' => some (.norm, st')
noncomputable def hasBody (P : Program) (f : Nat) : Bool := match afunc P f with
  | some fn => fn.body.isSome
  | none => false
noncomputable def cRange (P : Program) (G : Nat) (rc : CodeF) (rf : CallF) (rd : Bool) (f : Operand) (ps : List Nat) (assign body : Code) (N : Nat) (st : St) : Option (AX × St) := match rd with
  | true => none
  | false => match aOp G st.T f with
    | some (.fn g first captured) => match hasBody P g with
     | false => none
     | true => match rf g (first ++ (.yld (st.c + 1) :: captured)) ((st.H.set st.c .defs).set (st.c + 1) (.loop .ready st.T N ps assign body none)) (st.c + 2) with
      | none => none
      | some ⟨_, H', c'⟩ => match H'.get (st.c + 1) with
        | some (.loop .ready T' N' ps' as' bd' none) => some (.norm, ⟨st.T, H'.set (st.c + 1) (.loop .exhausted T' N' ps' as' bd' none), c', st.c :: st.ms⟩)
        | some (.loop .done T' N' ps' as' bd' (some j)) => rc false j N ⟨st.T, H'.set (st.c + 1) (.loop .exhausted T' N' ps' as' bd' (some j)), c', st.c :: st.ms⟩
        | _ => none
    | _ => none
noncomputable def codeF (P : Program) (G : Nat) (rc : CodeF) (rf : CallF) (rr : CallF) : CodeF := fun rd code N st =>
  match code with
  | .skip => some (.norm, st)
  | .label _ => some (.norm, st)
  | .seq a b => cSeq rc rd a b N st
  | .cond x a b => cCond G rc rd x a b N st
  | .block id body => cBlock rc rd id body N st
  | .loop body => aloop (fun st => rc rd body N st) 100000 st
  | .exit id => some (.exit id, st)
  | .ret => some (.ret, st)
  | .region _ ops draw => match draw with
    | true => cDraw P G rf rr ops.toList N st
    | false => cRegion P G rf rr ops.toList N st
  | .rangeFunc f ps assign body => cRange P G rc rf rd f ps.toList assign body N st
  | _ => none
/-- The marks are taken down when a function is left. -/
noncomputable def unmark (H : Tr AB) : List Nat → Option (Tr AB)
  | [] => some H
  | q :: qs => match H.get q with
    | some .defs => unmark (H.del q) qs
    | _ => none
noncomputable def cLeave (P : Program) (fn : Func) (st : St) : Option MR := match unmark st.H st.ms with
  | none => none
  | some H' => mkM (aresults P fn st.T H') H' st.c
/-- The first place of a byte. -/
def aidx : Nat → Nat → Nat → Nat → Int
  | 0, _, _, _ => .negSucc 0
  | n + 1, code, b, i => match Nat.beq (code % 256) b with
    | true => .ofNat i
    | false => aidx n (code / 256) b (i + 1)
noncomputable def aext2 (fn : Func) (args : List AV) (H : Tr AB) (c : Nat) : Option MR := match fn.name == "internal/bytealg.IndexByteString" && fn.origin == "", args with
  | true, [.str len code, .int .u8 (.ofNat b)] => match Nat.blt b 256 with
    | true => mkM (mkI .i64 (aidx len code b 0)) H c
    | false => none
  | _, _ => none
/-- A function without a body. -/
noncomputable def aext (fn : Func) (args : List AV) (H : Tr AB) (c : Nat) : Option MR := match fn.name == "internal/abi.NoEscape" && fn.origin == "", args with
  | true, [x] => mkM (some x) H c
  | _, _ => aext2 fn args H c
noncomputable def callF (P : Program) (rc : CodeF) : CallF := fun f args H c =>
  match afunc P f with
  | none => none
  | some fn => match fn.body, Nat.ble args.length fn.ntmps with
    | some code, true => match rc false code fn.ntmps ⟨setC .e 0 args, H, c, []⟩ with
      | some (.norm, st) => cLeave P fn st
      | some (.ret, st) => cLeave P fn st
      | _ => none
    | none, _ => aext fn args H c
    | _, _ => none
noncomputable def roundEnd (q : Nat) (x : AX) (st : St) : Option MR := match st.H.get q with
  | some (.loop .busy T N ps assign body none) => match x with
    | .norm => some ⟨.bool true, st.H.set q (.loop .ready T N ps assign body none), st.c⟩
    | .ret => some ⟨.bool false, st.H.set q (.loop .done T N ps assign body (some .ret)), st.c⟩
    | .exit id => some ⟨.bool false, st.H.set q (.loop .done T N ps assign body (some (.exit id))), st.c⟩
    | .goto _ => none
  | _ => none
noncomputable def roundF (rc : CodeF) : CallF := fun q args H c =>
  match H.get q with
  | some (.loop .ready T N ps assign body none) => match setParams N T ps args with
    | none => none
    | some T' => match rc true assign N ⟨T', H, c, []⟩ with
      | some (.norm, st) => match st.H.get q with
        | some (.loop .ready T2 N2 ps2 assign2 body2 none) => match rc true body N ⟨st.T, st.H.set q (.loop .busy T2 N2 ps2 assign2 body2 none), st.c, st.ms⟩ with
          | none => none
          | some (x, st') => roundEnd q x st'
        | _ => none
      | _ => none
  | _ => none
structure Fs where
  code : CodeF
  call : CallF
  round : CallF
noncomputable def ev (P : Program) (G : Nat) : Nat → Fs :=
  Nat.rec ⟨fun _ _ _ _ => none, fun _ _ _ _ => none, fun _ _ _ _ => none⟩ fun _ ih => ⟨codeF P G ih.code ih.call ih.round, callF P ih.code, roundF ih.code⟩
end Go.Proofs.YtknmbmdeilbdkaaGreatDoor.Ev
