/- A verified evaluator of Go functions. -/
import Derived.Below
import Derived.WalkKit
import Derived.Deep.MidRow
import Derived.Deep.AppendSrc
set_option linter.unusedVariables false
set_option linter.unusedSimpArgs false
namespace Go
variable{p:Prop}{α β:Type}{n m:Nat}
theorem _root_.Go.MK(h:p:=by omega):p:=h
theorem _root_.Go.Ns(h:p:=by grind):p:=h
theorem _root_.Go.NS(h:p:=by simp):p:=h
theorem _root_.Go.Pp(h:p:=by decide):p:=h
theorem xa{a b:List α}:(a++b).length=a.length+b.length:=List.length_append
theorem xb:Nat.beq n m=true->n=m:=Nat.eq_of_beq_eq_true
theorem xc{l:List α}{i:Nat}(h:i<l.length):l[i]? =some l[i]:=List.getElem?_eq_getElem h
theorem xd:([]:List α).length=0:=List.length_nil
theorem xe{i:Nat}{a:α}{l:List α}:l[i]? =some a↔∃h:i<l.length,l[i]=a:=List.getElem?_eq_some_iff
theorem xf(a b:Bool):((a&&b)=true)=(a=true/\b=true):=Bool.and_eq_true a b
theorem xh:Nat.ble n m=true->n<=m:=Nat.le_of_ble_eq_true
theorem xi{a:α}{l:List α}:(a::l).length=l.length+1:=List.length_cons
theorem xj(l:List α):l++[]=l:=List.append_nil l
theorem xk(n:Nat):n<=n:=Nat.le_refl n
theorem xm{l:List α}(f:α->β):(l.map f).length=l.length:=List.length_map f
theorem xn{a:α}{l:List α}:a∈a::l:=List.mem_cons_self
theorem xo(y:α){a:α}{l:List α}:a∈l->a∈y::l:=List.mem_cons_of_mem y
theorem xp{b:α}{γ:Type}{x:Option γ}{f:γ->α}:x.map f=some b↔∃a,x=some a/\f a=b:=Option.map_eq_some_iff
theorem xq{l m:List α}{i:Nat}:l.length<=i->(l++m)[i]? =m[i-l.length]?:=List.getElem?_append_right
theorem xr{b:α}{γ:Type}{x:Option γ}{f:γ->Option α}:x.bind f=some b↔∃a,x=some a/\f a=some b:=Option.bind_eq_some_iff
theorem xt{l:List α}{i:Nat}{a:α}:(l.set i a).length=l.length:=List.length_set
theorem xu{l:List α}{i:Nat}{a:α}:l[i]? =some a->a∈l:=List.mem_of_getElem?
theorem xw{l m:List α}{i:Nat}:i<l.length->(l++m)[i]? =l[i]?:=List.getElem?_append_left
theorem xx{f:α->β}{l:List α}{i:Nat}:(l.map f)[i]? =l[i]?.map f:=List.getElem?_map
theorem xy{a b:α}:a∈[b]↔a=b:=List.mem_singleton
theorem xz{i:Nat}{l:List α}:(l.take i).length=min i l.length:=List.length_take
theorem xA{l:List α}:l.length=0->l=[]:=List.eq_nil_of_length_eq_zero
theorem xB(a:α)(f:α->Option β):(some a).bind f=f a:=Option.bind_some a f
theorem xC{a b:α}:some a=some b->a=b:=Option.some.inj
theorem xD(k:Nat):n<=m->n*k<=m*k:=Nat.mul_le_mul_right k
theorem xE{l:List α}:l.length=0↔l=[]:=List.length_eq_zero_iff
theorem xF{a:α}{s t:List α}:a∈s++t↔a∈s\/a∈t:=List.mem_append
theorem xG{b:α}{l:List α}{a:α}:a∈b::l↔a=b\/a∈l:=List.mem_cons
theorem xH{k:Nat}:n<=m->m<=k->n<=k:=Nat.le_trans
theorem xI(n:Nat):n=0\/n>0:=Nat.eq_zero_or_pos n
theorem xJ{b:β}{f:α->β}{l:List α}:b∈l.map f↔∃a,a∈l/\f a=b:=List.mem_map
theorem xK{k:Nat}:n<m->m<=k->n<k:=Nat.lt_of_lt_of_le
theorem xL(n:Nat):0<=n:=Nat.zero_le n
abbrev xM:=Value
abbrev KB:=Array xM
abbrev JJ:=Option xM
abbrev GU:=Nat->Option (Array xM)
abbrev C3:=List xM
abbrev xN:=TypeId
abbrev xO:=IntKind
abbrev JI:=List xO
abbrev Cf:=List (Nat×List xO)
end Go
namespace Go.Ex
variable{α:Type}{z z':GU}{v' x':xM}{l l' p p' cs:C3}{ks:JI}{b es B n:Nat}{ty t:xN}{X:Nat->Prop}{a w w' w0:World}{op:BinOp}{k:xO}
abbrev MJ:=Option (List (List Item))
abbrev LH:=Array MapEntry
abbrev Ji:=Option Nat
abbrev HF:=List Oper
abbrev FP:=List MapEntry
abbrev EH:=List UInt8
abbrev Es:=List Nat
abbrev Dw:=List (List Nat)
noncomputable section
def bs(b:Bool)(t f:α):α:= @Bool.rec (fun _=>α) f t b
theorem fK(t f:α):bs true t f=t:=rfl
theorem kz(t f:α):bs false t f=f:=rfl
inductive T (α:Type) where
 |nil
 |node (l:T α) (v:α) (r:T α)
def T.get{α:Type}(d:α)(t:T α):Nat->α:=
 T.rec (motive:=fun _=>Nat->α) (fun _=>d)
  (fun _ v _ gl gr n=>Nat.rec (motive:=fun _=>α) v (fun p _=>Nat.rec (motive:=fun _=>α) (gl (Nat.div p 2)) (fun _ _=>gr (Nat.div p 2)) (Nat.mod p 2)) n) t
def T.set(t:T α):Nat->α->T α:=
 T.rec (motive:=fun _=>Nat->α->T α) (fun _ _=> .nil)
  (fun l v r sl sr n x=>Nat.rec (motive:=fun _=>T α) (.node l x r) (fun p _=>Nat.rec (motive:=fun _=>T α) (.node (sl (Nat.div p 2) x) v r) (fun _ _=> .node l v (sr (Nat.div p 2) x)) (Nat.mod p 2)) n) t
def T.full(d:α)(k:Nat):T α:=Nat.rec .nil (fun _ t=> .node t d t) k
section
theorem lW{β:Type}(x y:β)(p:Nat):Nat.rec (motive:=fun _=>β) x (fun _ _=>y) (Nat.mod p 2)=if p%2=0 then x else y:=by
 have h:p%2=0\/p%2=1:=MK
 rcases h with h|h
 ·rw[if_pos h];show Nat.rec (motive:=fun _=>β) x (fun _ _=>y) (p%2)=x;rw[h];rfl
 ·rw[if_neg MK];show Nat.rec (motive:=fun _=>β) x (fun _ _=>y) (p%2)=y;rw[h];rfl
theorem T.ky(d:α)(l r:T α)(v:α)(n:Nat):T.get d (.node l v r) n=if n=0 then v else if n%2=1 then l.get d (n/2) else r.get d (n/2 - 1):=by
 cases n with
 |zero=>rfl
 |succ p=>
  show Nat.rec (motive:=fun _=>α) (l.get d (p/2)) (fun _ _=>r.get d (p/2)) (Nat.mod p 2)=_;rw[lW,if_neg (show ¬p+1=0 by omega)]
  grind
theorem T.NO(l r:T α)(v x:α)(n:Nat):T.set (.node l v r) n x=if n=0 then .node l x r else if n%2=1 then .node (l.set (n/2) x) v r else .node l v (r.set (n/2 - 1) x):=by
 cases n with
 |zero=>rfl
 |succ p=>
  show Nat.rec (motive:=fun _=>T α) (.node (l.set (p/2) x) v r) (fun _ _=> .node l v (r.set (p/2) x)) (Nat.mod p 2)=_;rw[lW,if_neg (show ¬p+1=0 by omega)]
  grind
theorem T.tA(d:α)(t:T α):∀(i j:Nat) (x:α),i≠j->(t.set i x).get d j=t.get d j:=by
 induction t with
 |nil=>intros;rfl
 |node l v r hl hr=>
  intro i j x BE;rw[T.NO];by_cases h0:i=0
  ·subst h0;rw[if_pos rfl,T.ky,T.ky,if_neg (Ne.symm BE),if_neg (Ne.symm BE)]
  ·rw[if_neg h0];by_cases h1:i%2=1
   ·rw[if_pos h1,T.ky,T.ky]
    grind
   ·rw[if_neg h1,T.ky,T.ky]
    grind
theorem T.tz(d:α)(t:T α):∀(i:Nat) (x:α),(t.set i x).get d i=x\/((t.set i x).get d i=d/\t.get d i=d):=by
 induction t with
 |nil=>intro i x;exact .inr ⟨rfl,rfl⟩
 |node l v r hl hr=>
  intro i x;rw[T.NO];by_cases h0:i=0
  ·subst h0;rw[if_pos rfl,T.ky,if_pos rfl];grind
  ·rw[if_neg h0];by_cases h1:i%2=1
   ·rw[if_pos h1,T.ky,if_neg h0,if_pos h1,T.ky,if_neg h0,if_pos h1];exact hl _ x
   ·rw[if_neg h1,T.ky,if_neg h0,if_neg h1,T.ky,if_neg h0,if_neg h1];exact hr _ x
theorem T.B7(d e:α):∀k i,(T.full d k).get e i=d\/(T.full d k).get e i=e
 |0,_=> .inr rfl
 |k+1,i=>by
  show(T.node (T.full d k) d (T.full d k)).get e i=d\/(T.node (T.full d k) d (T.full d k)).get e i=e;rw[T.ky];split
  ·grind
  ·split
   ·exact T.B7 d e k _
   ·exact T.B7 d e k _
def dM(l:List α):Nat->Option α:=
 List.rec (motive:=fun _=>Nat->Option α) (fun _=>none) (fun a _ ih n=>Nat.rec (some a) (fun m _=>ih m) n) l
theorem gg(l:List α):∀n,dM l n=l[n]? :=by
 induction l with
 |nil=>grind [dM]
 |cons a l ih=>
  intro n;cases n with
  |zero=>rfl
  |succ n=>exact(ih n).trans NS
def Rm(l:List α):Nat->α->List α:=
 List.rec (motive:=fun _=>Nat->α->List α) (fun _ _=>[]) (fun a t ih n x=>Nat.rec (x::t) (fun m _=>a::ih m x) n) l
theorem aP7(l:List α):∀n x,Rm l n x=l.set n x:=by
 induction l with
 |nil=>intro n x;rfl
 |cons a l ih=>
  intro n x;cases n with
  |zero=>rfl
  |succ n=>exact congrArg (a:: ·) (ih n x)
def pE(n:Nat):List α->Option (List α):=
 Nat.rec (motive:=fun _=>List α->Option (List α)) (fun _=>some []) (fun _ ih l=>List.rec (motive:=fun _=>Option (List α)) none (fun a t _=>Option.rec (motive:=fun _=>Option (List α)) none (fun r=>some (a::r)) (ih t)) l) n
theorem Fm:∀(n:Nat) (l r:List α),pE n l=some r->r=l.take n/\n<=l.length
 |0,l,r,h=>by cases h;simp
 |n+1,[],r,h=>by cases h
 |n+1,a::t,r,h=>by
  have h':(Option.rec (motive:=fun _=>Option (List α)) none (fun r=>some (a::r)) (pE n t))=some r:=h;cases hr:pE n t with
  |none=>simp_all
  |some q=>
   rw[hr] at h';cases h';obtain⟨h1,h2⟩:=Fm n t q hr
   grind
def ra(n:Nat):List α->List α:=
 Nat.rec (motive:=fun _=>List α->List α) (fun l=>l) (fun _ ih l=>List.rec (motive:=fun _=>List α) [] (fun _ t _=>ih t) l) n
theorem Fp:∀(n:Nat) (l:List α),ra n l=l.drop n
 |0,_=>rfl
 |n+1,[]=>rfl
 |n+1,_::t=>(Fp n t).trans NS
def bT(l:List α):Nat:=List.rec (motive:=fun _=>Nat) 0 (fun _ _ n=>Nat.add n 1) l
theorem eH(l:List α):bT l=l.length:=by
 induction l with
 |nil=>rfl
 |cons a l ih=>exact congrArg (· +1) ih
def iR(l r:List α):List α:=List.rec (motive:=fun _=>List α) r (fun a _ ih=>a::ih) l
theorem mQ(l r:List α):iR l r=l++r:=by
 induction l with
 |nil=>rfl
 |cons a l ih=>exact congrArg (a:: ·) ih
def fC{γ:Type}(f:α->γ)(l:List α):List γ:=List.rec (motive:=fun _=>List γ) [] (fun a _ ih=>f a::ih) l
theorem qc{γ:Type}(f:α->γ)(l:List α):fC f l=l.map f:=by
 induction l with
 |nil=>rfl
 |cons a l ih=>exact congrArg (f a:: ·) ih
def fb(f:α->Bool)(l:List α):Bool:=List.rec (motive:=fun _=>Bool) true (fun a _ ih=>bs (f a) ih false) l
theorem oR(f:α->Bool)(l:List α):fb f l=true->∀a∈l,f a=true:=by
 induction l with
 |nil=>grind
 |cons b l ih=>
  intro h a ha;have h':bs (f b) (fb f l) false=true:=h;cases hb:f b with
  |false=>rw[hb] at h';cases h'
  |true=>
   rw[hb] at h';cases ha with
   |head=>exact hb
   |tail _ ha=>exact ih h' a ha
end
structure Loc where
 b:Nat
 d:Nat
 es:Nat
 sz:Nat
inductive D where
 |int (k:xO) (n:Int)
 |bool (b:Bool)
 |str (s:EH)
 |o6
 |AU
 |AT
 |AS
 |sl (rows:List (List D))
 |ptr (row:List D) (o:Nat)
 |agg (cs:List D)
 |yU (cs:List D)
 |func (f:FuncId) (p q:List D)
abbrev KA:=Option D
abbrev FM:=Nat->Option D
abbrev Di:=List D
abbrev Ca:=List (List D)
abbrev Bv:=Nat->List D->Option (List D)
def D.cell:D->Bool
 | .agg _=>false
 | .yU _=>false
 |_=>true
inductive Rd (z:GU):D->xM->Prop where
 |int (k:xO) (n:Int):Rd z (.int k n) (.int k n)
 |bool (b:Bool):Rd z (.bool b) (.bool b)
 |str (l:EH):Rd z (.str l) (.string ⟨⟨l⟩⟩)
 |o6:Rd z .o6 (.pointer none)
 |AU:Rd z .AU .nilFunc
 |AT:Rd z .AT .nilIface
 |AS:Rd z .AS (.map none)
 |qC:Rd z (.sl []) (.slice none 0 0)
 |m8 (a:Addr) (c:Nat):Rd z (.sl []) (.slice (some a) 0 c)
 |sl (rows:Ca) (es b o c:Nat) (cells:KB) (hz:z b=some cells) (bo:rows≠[]) (dU:∀row∈rows,row.length=es) (hc:rows.length<=c) (hs:o+c*es<=cells.size)
  (h:∀(i:Nat) (row:Di) (j:Nat) (d:D) (v:xM),rows[i]? =some row->row[j]? =some d->cells[o+(i*es+j)]? =some v->Rd z d v):Rd z (.sl rows) (.slice (some ⟨b,o,none⟩) rows.length c)
 |ptr (row:Di) (o b o0:Nat) (cells:KB) (hz:z b=some cells) (hs:o0+row.length<=cells.size)
  (h:∀(j:Nat) (d:D) (v:xM),row[j]? =some d->cells[o0+j]? =some v->Rd z d v):Rd z (.ptr row o) (.pointer (some ⟨b,o0+o,none⟩))
 |agg (ds:Di) (vs:C3) (hl:ds.length=vs.length) (h:∀(i:Nat) (d:D) (v:xM),ds[i]? =some d->vs[i]? =some v->Rd z d v):Rd z (.agg ds) (.agg ⟨vs⟩)
 |yU (ds:Di) (vs:C3) (hl:ds.length=vs.length) (h:∀(i:Nat) (d:D) (v:xM),ds[i]? =some d->vs[i]? =some v->Rd z d v):Rd z (.yU ds) (.tuple ⟨vs⟩)
 |func (f:FuncId) (p q:Di) (p' q':C3) (hp:p.length=p'.length) (hq:q.length=q'.length) (h1:∀(i:Nat) (d:D) (v:xM),p[i]? =some d->p'[i]? =some v->Rd z d v)
  (h2:∀(i:Nat) (d:D) (v:xM),q[i]? =some d->q'[i]? =some v->Rd z d v):Rd z (.func f p q) (.func (.func f) ⟨p'⟩ ⟨q'⟩)
theorem Rd.mono(hz:∀b c,z b=some c->z' b=some c){d:D}{v:xM}(h:Rd z d v):Rd z' d v:=by
 induction h with
 |int k n=>exact .int k n
 |bool b=>exact .bool b
 |str l=>exact .str l
 |o6=>exact .o6
 |AU=>exact .AU
 |AT=>exact .AT
 |AS=>exact .AS
 |qC=>exact .qC
 |m8 a c=>exact .m8 a c
 |sl rows es b o c cells h1 bo dU hc hs _ ih=>exact .sl rows es b o c cells (hz _ _ h1) bo dU hc hs ih
 |ptr row o b o0 cells h1 hs _ ih=>exact .ptr row o b o0 cells (hz _ _ h1) hs ih
 |agg ds vs hl _ ih=>exact .agg ds vs hl ih
 |yU ds vs hl _ ih=>exact .yU ds vs hl ih
 |func f p q p' q' hp hq _ _ i1 i2=>exact .func f p q p' q' hp hq i1 i2
inductive NK where
 |bin (op:BinOp) (c:Nat)
 |te (ks:JI) (neg:Bool)
 |un (op:UnOp)
 |kS (k:xO)
 |EM
 |GX
 |sj
 |DH
 |GM
 |pR (es:Nat)
 |tY (es:Nat)
 |sB (off:Nat)
 |ld
 |wa (n:Nat)
 |Gm
 |own (op:Nat)
 |call (f:FuncId)
 |lV (s:Nat)
 |dB (es n:Nat)
 |Hb (o:Nat)
 |app (es bys:Nat)
 |iO
 |pD (off n:Nat) (row:Bool)
 |uu (es off n:Nat) (row:Bool)
 |kj (off:Nat)
 |n0 (es bys:Nat)
 |strOf
 |mx
 |C2
 |C6
 |mn
 |EO (n:Nat)
 |tI (ks:JI)
 |u5 (ks:JI)
 |ko (ks:JI)
 |zV (ks:JI)
 |u4
 |Dx
 |Cy (ks:JI)
 |Cv (ks:JI)
 |Cw (ks:JI)
 |Cz
 |AV (neg:Bool)
 |sf (f i:Nat)
structure Node where
 k:NK
 args:C3
 res:xM
structure GP where
 n:Nat
 Q:(FM)->Node->Prop
 L:World->Prop
instance:Coe GP Nat:=⟨GP.n⟩
structure XZ where
 p:Nat->Prop
 z0:GU
instance:CoeFun XZ (fun _=>Nat->Prop):=⟨XZ.p⟩
structure HY where
 own:Nat
 cs:KB
 ty:xN
structure ai where
 f:Nat->Option Loc
 z:GU
 d:FM
 x:XZ
 o:Nat->Option xM
 y:Nat->Option HY:=fun _=>none
instance:CoeFun ai (fun _=>Nat->Option Loc):=⟨ai.f⟩
def J:xM:= .chan (some 0)
def Dp:Nat:=4294967291
def aX(d:FM)(v:xM):KA:=
 match v with
 | .chan (some (c+1))=>(d c).bind fun x=>if x.cell then some x else none
 | .int k n=>some (.int k n)
 | .bool b=>some (.bool b)
 | .string ⟨⟨l⟩⟩=>some (.str l)
 | .pointer none=>some .o6
 | .slice none 0 0=>some (.sl [])
 | .nilFunc=>some .AU
 | .nilIface=>some .AT
 | .map none=>some .AS
 | .func (.func f) ⟨[]⟩ ⟨[]⟩=>some (.func f [] [])
 |_=>none
inductive aj (β:ai):xM->xM->Prop where
 |jT (v:xM):aj β J v
 |sym (c:Nat) (d:D) (v:xM) (h:β.d c=some d) (hc:d.cell=true) (hr:Rd β.z d v):aj β (.chan (some (c+1))) v
 |own (B c:Nat) (rows:Ca) (a:Option Addr) (cap:Nat) (h:β.o B=some (.slice a rows.length cap)) (ha:(a=none/\rows=[])\/∃l,β B=some l/\a=some ⟨l.b,l.d,none⟩) (hd:β.d c=some (.sl rows)):aj β (.iface B (.chan (some (c+1)))) (.slice a rows.length cap)
 |qv (B es off m:Nat) (l:Loc) (iv:xM) (k:xO) (h:β B=some l) (hi:aX β.d iv=some (.int k (m:Nat))):
  aj β (.iface B (.agg ⟨[iv,.int .i64 (es:Nat),.int .i64 (off:Nat)]⟩)) (.pointer (some ⟨l.b,l.d+(m*es+off),none⟩))
 |raw (B n cap:Nat) (l:Loc) (h:β B=some l) (hn:n<=cap) (hs:β.o B=some (.slice (some ⟨l.b,l.d,none⟩) 0 cap)):aj β (.iface B (.tuple ⟨[]⟩)) (.slice (some ⟨l.b,l.d,none⟩) n cap)
 |part (B off n m:Nat) (l:Loc) (iv:xM) (k:xO) (h:β B=some l) (hi:aX β.d iv=some (.int k (m:Nat))) (hm:m<=n):
  aj β (.iface B (.tuple ⟨[iv,.int .i64 (off:Nat),.int .i64 (n:Nat)]⟩)) (.slice (some ⟨l.b,l.d+off+m,none⟩) (n - m) (n - m))
 |bool (b:Bool):aj β (.bool b) (.bool b)
 |int (k:xO) (n:Int):aj β (.int k n) (.int k n)
 |string (s:ByteArray):aj β (.string s) (.string s)
 |tW:aj β (.pointer none) (.pointer none)
 |ptr (B o:Nat) (l:Loc) (h:β B=some l):aj β (.pointer (some ⟨B,o,none⟩)) (.pointer (some ⟨l.b,l.d+o,none⟩))
 |yb:aj β (.slice none 0 0) (.slice none 0 0)
 |slice (B o n c c':Nat) (l:Loc) (h:β B=some l) (hn:n<=c) (hc:c<=c') (he:l.d+o+c'*l.es<=l.sz):
  aj β (.slice (some ⟨B,o,none⟩) n c) (.slice (some ⟨l.b,l.d+o,none⟩) n c')
 |empty (o:Nat) (a':Addr) (c':Nat):aj β (.slice (some ⟨Dp,o,none⟩) 0 0) (.slice (some a') 0 c')
 |AX:aj β (.map none) (.map none)
 |map (B:Nat) (l:Loc) (h:β B=some l):aj β (.map (some B)) (.map (some l.b))
 |nilFunc:aj β .nilFunc .nilFunc
 |nilIface:aj β .nilIface .nilIface
 |func (f:FuncId) (p p' q q':C3) (hp:p.length=p'.length) (hq:q.length=q'.length)
  (h1:∀(i:Nat) (v v':xM),p[i]? =some v->p'[i]? =some v'->aj β v v') (h2:∀(i:Nat) (v v':xM),q[i]? =some v->q'[i]? =some v'->aj β v v'):
  aj β (.func (.func f) ⟨p⟩ ⟨q⟩) (.func (.func f) ⟨p'⟩ ⟨q'⟩)
 |yield (B:Nat) (l:Loc) (h:β B=some l):aj β (.func (.yield B) ⟨[]⟩ ⟨[]⟩) (.func (.yield l.b) ⟨[]⟩ ⟨[]⟩)
 |agg (p p':C3) (hp:p.length=p'.length) (h1:∀(i:Nat) (v v':xM),p[i]? =some v->p'[i]? =some v'->aj β v v'):aj β (.agg ⟨p⟩) (.agg ⟨p'⟩)
 |tuple (p p':C3) (hp:p.length=p'.length) (h1:∀(i:Nat) (v v':xM),p[i]? =some v->p'[i]? =some v'->aj β v v'):aj β (.tuple ⟨p⟩) (.tuple ⟨p'⟩)
def aZ(β:ai)(l l':C3):Prop:=l.length=l'.length/\∀(i:Nat) (v v':xM),l[i]? =some v->l'[i]? =some v'->aj β v v'
structure ai.le (β β':ai):Prop where
 f:∀B l,β B=some l->β' B=some l
 z:∀b c,β.z b=some c->β'.z b=some c
 o:∀B v,β.o B=some v->β'.o B=some v
 d:β'.d=β.d
 x:β'.x=β.x
theorem ai.le_refl(β:ai):β.le β:=⟨fun _ _ h=>h,fun _ _ h=>h,fun _ _ h=>h,rfl,rfl⟩
theorem ai.le_trans{a b c:ai}(h:a.le b)(k:b.le c):a.le c:=⟨fun B l e=>k.f B l (h.f B l e),fun B l e=>k.z B l (h.z B l e),fun B l e=>k.o B l (h.o B l e),k.d.trans h.d,k.x.trans h.x⟩
theorem aj.mono{β β':ai}(hb:β.le β'){v:xM}(h:aj β v v'):aj β' v v':=by
 induction h with
 |jT v=>exact .jT v
 |bool b=>exact .bool b
 |int k n=>exact .int k n
 |string s=>exact .string s
 |tW=>exact .tW
 |sym c d v h hc hr=>exact .sym c d v (by rw[hb.d];exact h) hc (hr.mono hb.z)
 |own B c rows a cap h ha hd=>exact .own B c rows a cap (hb.o _ _ h) (ha.imp id fun⟨l,x,y⟩=>⟨l,hb.f _ _ x,y⟩) (by rw[hb.d];exact hd)
 |qv B es off m l iv k h hi=>exact .qv B es off m l iv k (hb.f _ _ h) (by rw[hb.d];exact hi)
 |raw B n cap l h hn hs=>exact .raw B n cap l (hb.f _ _ h) hn (hb.o _ _ hs)
 |part B off n m l iv k h hi hm=>exact .part B off n m l iv k (hb.f _ _ h) (by rw[hb.d];exact hi) hm
 |ptr B o l h=>exact .ptr B o l (hb.f _ _ h)
 |yb=>exact .yb
 |slice B o n c c' l h hn hc he=>exact .slice B o n c c' l (hb.f _ _ h) hn hc he
 |empty o a' c'=>exact .empty o a' c'
 |AX=>exact .AX
 |map B l h=>exact .map B l (hb.f _ _ h)
 |nilFunc=>exact .nilFunc
 |nilIface=>exact .nilIface
 |func f p p' q q' hp hq _ _ i1 i2=>exact .func f p p' q q' hp hq i1 i2
 |yield B l h=>exact .yield B l (hb.f _ _ h)
 |agg p p' hp _ i1=>exact .agg p p' hp i1
 |tuple p p' hp _ i1=>exact .tuple p p' hp i1
theorem aZ.mono{β β':ai}(hb:β.le β')(h:aZ β l l'):aZ β' l l':=⟨h.1,fun i v v' a b=>(h.2 i v v' a b).mono hb⟩
theorem aZ.nil(β:ai):aZ β [] []:=⟨rfl,fun i v v' h=>by simp at h⟩
theorem aZ.cons{β:ai}{v:xM}(h:aj β v v')(hl:aZ β l l'):aZ β (v::l) (v'::l'):=by
 refine⟨by simp[hl.1],fun i u u' a b=> ?_⟩;cases i with
 |zero=>grind
 |succ i=>simp at a b;exact hl.2 i u u' a b
theorem aZ.pu{β:ai}{v:xM}{r:C3}(h:aZ β (v::l) r):∃v' l',r=v'::l'/\aj β v v'/\aZ β l l':=by
 cases r with
 |nil=>exact absurd h.1 NS
 |cons v' l'=>exact⟨v',l',rfl,h.2 0 v v' rfl rfl,by have:=h.1;grind,fun i a b ha hb=>h.2 (i+1) a b Ns Ns⟩
theorem aZ.qU{β:ai}{r:C3}(h:aZ β [] r):r=[]:=by
 cases r with
 |nil=>rfl
 |cons _ _=>exact absurd h.1 NS
theorem aZ.append{β:ai}{a a' b b':C3}(h:aZ β a a')(k:aZ β b b'):aZ β (a++b) (a'++b'):=by
 induction a generalizing a' with
 |nil=>rw[h.qU];exact k
 |cons v a ih=>
  obtain⟨v',l',rfl,h1,h2⟩:=h.pu
  grind [cons]
theorem aZ.get{β:ai}{l l':C3}(h:aZ β l l'){i:Nat}{v:xM}(hv:l[i]? =some v):∃v',l'[i]? =some v'/\aj β v v':=by
 have hi:i<l'.length:=h.1▸(xe.1 hv).1;exact⟨l'[i],by simp[hi],h.2 i v _ hv (by simp[hi])⟩
theorem aZ.take{β:ai}(h:aZ β l l')(n:Nat):aZ β (l.take n) (l'.take n):=by
 refine⟨by simp[h.1],fun i v v' a b=> ?_⟩;rw[List.getElem?_take] at a b;split at a
 ·rw[if_pos (by assumption)] at b;exact h.2 i v v' a b
 ·cases a
theorem aZ.drop{β:ai}(h:aZ β l l')(n:Nat):aZ β (l.drop n) (l'.drop n):=by
 refine⟨by simp[h.1],fun i v v' a b=> ?_⟩;rw[List.getElem?_drop] at a b;exact h.2 _ v v' a b
theorem aZ.set{β:ai}(h:aZ β l l')(n:Nat){x:xM}(hx:aj β x x'):aZ β (l.set n x) (l'.set n x'):=by
 refine⟨by simp[h.1],fun i v v' a b=> ?_⟩;rw[List.getElem?_set] at a b;by_cases hn:n=i
 ·grind
 ·rw[if_neg hn] at a b;exact h.2 i v v' a b
theorem aj.XC{β:ai}{f:FuncId}{q q':C3}(h1:aZ β p p')(h2:aZ β q q'):aj β (.func (.func f) ⟨p⟩ ⟨q⟩) (.func (.func f) ⟨p'⟩ ⟨q'⟩):= .func f p p' q q' h1.1 h2.1 h1.2 h2.2
theorem aj.mU{β:ai}(h1:aZ β p p'):aj β (.agg ⟨p⟩) (.agg ⟨p'⟩):= .agg p p' h1.1 h1.2
theorem aj.rK{β:ai}(h1:aZ β p p'):aj β (.tuple ⟨p⟩) (.tuple ⟨p'⟩):= .tuple p p' h1.1 h1.2
theorem aj.undef{β:ai}:aj β Go.undef Go.undef:=aj.rK (aZ.nil β)
def aH(g:xM->KA):List xM->Option (List D)
 |[]=>some []
 |v::l=>match g v,aH g l with|some x,some r=>some (x::r)|_,_=>none
def bR(d:FM)(v:xM):KA:=match v with| .agg ⟨l⟩=>(aH (aX d) l).map .agg|v=>aX d v
def den(d:FM)(v:xM):KA:=match v with| .tuple ⟨l⟩=>(aH (bR d) l).map .yU|v=>bR d v
def eE(d:FM)(v:xM):KA:=match v with| .slice _ _ _=>none|v=>aX d v
def iF(d:FM)(v:xM):KA:=match v with| .agg ⟨l⟩=>(aH (eE d) l).map .agg|v=>eE d v
def res(d:FM)(v:xM):KA:=match v with| .tuple ⟨l⟩=>(aH (iF d) l).map .yU|v=>iF d v
theorem jb{g:xM->KA}{x:xM}{ds:Di}(h:aH g (x::l)=some ds):∃d r,ds=d::r/\g x=some d/\aH g l=some r:=by
 unfold aH at h
 grind
theorem Wn{g:xM->KA}{ds:Di}(h:aH g []=some ds):ds=[]:=by cases h;rfl
theorem kU{g:xM->KA}{x:xM}{ds:Di}(h:aH g [x]=some ds):∃d,ds=[d]/\g x=some d:=by
 obtain⟨d,r,rfl,h1,h2⟩:=jb h;rw[Wn h2];grind
theorem jj{g:xM->KA}{x y:xM}{ds:Di}(h:aH g [x,y]=some ds):∃d e,ds=[d,e]/\g x=some d/\g y=some e:=by
 obtain⟨d,r,rfl,h1,h2⟩:=jb h;obtain⟨e,rfl,h3⟩:=kU h2
 grind
theorem rJ{g g':xM->KA}(hg:∀v d,g v=some d->g' v=some d):∀{l:C3} {ds:Di},aH g l=some ds->aH g' l=some ds
 |[],_,h=>h
 |v::l,ds,h=>by
  obtain⟨d,r,rfl,h1,h2⟩:=jb h;unfold aH;rw[hg _ _ h1,rJ hg h2]
open Go.RowKit
inductive Uo where
 |ready
 |busy
 |done (j:Code)
inductive AO where
 |cells (cs:C3)
 |loop (st:Uo) (fr:T xM) (n:Nat) (ps:Es) (a b:Code)
 |wO
 |own (c:xM)
 |maps (c:xM)
 |jC (ks:JI) (c:xM)
 |gA (ks:JI) (c:xM) (tk:Option (Nat×List xM))
 |rk (ks:JI) (c:xM)
 |pG (B:Nat) (c l:xM) (aB:C3)
 |An (B:Nat) (c l:xM) (fin:Bool)
def jN:Nat:=4294967295
structure aG where
 obj:AO
 es:Nat
 exact:Bool
 ro:Bool
 ty:xN
abbrev Gy:=List (Option aG)
def aG.still(b:aG):Bool:=match b.obj with| .cells _=>b.ro| .own _=>b.ro|_=>false
structure AW where
 heap:T (Option aG)
 next:Nat
 tape:List Node
abbrev Im:=Option (xM×AW)
def AW.get(A:AW)(B:Nat):Option aG:=A.heap.get none B
def AW.put(A:AW)(B:Nat)(o:Option aG):AW:=⟨A.heap.set B o,A.next,A.tape⟩
def AW.add(A:AW)(blk:aG):AW:=⟨A.heap.set A.next (some blk),Nat.add A.next 1,A.tape⟩
def Ho(β:ai)(e e':MapEntry):Prop:=e.born=e'.born/\aj β e.key e'.key/\aj β e.val e'.val
def vW(z:GU)(rows:Ca)(es:FP):Prop:=
 rows.length=es.length/\∀(i:Nat) (row:Di) (e:MapEntry),rows[i]? =some row->es[i]? =some e->∃s d,row=[.str s,d]/\e.key= .string ⟨⟨s⟩⟩/\Rd z d e.val
theorem vW.mono(hz:∀b c,z b=some c->z' b=some c){rows:Ca}{es:FP}(h:vW z rows es):vW z' rows es:=
 ⟨h.1,fun i row e a b=>(h.2 i row e a b).imp fun s ⟨d,x,y,w⟩=>⟨d,x,y,w.mono hz⟩⟩
def fc:List xO->List D->Option (List xM)
 |[],[]=>some []
 |k::ks,.int j n::ds=>if j=k then(fc ks ds).map (.int j n:: ·) else none
 |_,_=>none
def pb(z:GU)(ks:JI)(rows:Ca)(es:FP):Prop:=
 rows.length=es.length/\∀(i:Nat) (row:Di) (e:MapEntry),rows[i]? =some row->es[i]? =some e->∃ds vs d,row=[.agg ds,d]/\fc ks ds=some vs/\e.key= .agg ⟨vs⟩/\d.cell=true/\Rd z d e.val
theorem pb.mono(hz:∀b c,z b=some c->z' b=some c){rows:Ca}{es:FP}(h:pb z ks rows es):pb z' ks rows es:=
 ⟨h.1,fun i row e a b=>by
  obtain⟨ds,vs,d,x,y,u,c,w⟩:=h.2 i row e a b
  grind [w.mono]⟩
abbrev eT:D:= .o6
def lQ(β:ai)(b es:Nat)(ty:xN)(rs:Ca)(v:xM):Prop:=
 (rs=[]/\v= .slice none 0 0)\/∃c off cap h,v= .slice (some ⟨c,off,none⟩) rs.length cap/\β.y c=some h/\h.own=b/\h.ty=ty/\rs.length<=cap/\off+cap*es<=h.cs.size/\(∀row∈rs,row.length=es)/\
  ∀(i:Nat) (row:Di) (j:Nat) (d:D),rs[i]? =some row->row[j]? =some d->∃v,h.cs[off+(i*es+j)]? =some v/\Rd β.z d v
theorem lQ.mono{β β':ai}(hz:∀b c,β.z b=some c->β'.z b=some c)(hy:∀c h,β.y c=some h->h.own=b->β'.y c=some h){rs:Ca}{v:xM}(h:lQ β b es ty rs v):lQ β' b es ty rs v:=
 h.imp id fun⟨c,off,cap,h,e1,e2,e3,e4,e5,e6,e7,e8⟩=>⟨c,off,cap,h,e1,hy c h e2 e3,e3,e4,e5,e6,e7,fun i row j d x y=>(e8 i row j d x y).imp fun v ⟨p,q⟩=>⟨p,q.mono hz⟩⟩
def tR(v:xM):Ji:=match v with| .slice (some a) _ _=>some a.block|_=>none
structure lP (β:ai) (b es:Nat) (ty:xN) (ks:JI) (tk:Option (Nat×List D)) (rows:Ca) (jU:FP):Prop where
 len:rows.length=jU.length
 row:∀(i:Nat) (row:Di) (e:MapEntry),rows[i]? =some row->jU[i]? =some e->∃ds vs d,row=[.agg ds,d]/\fc ks ds=some vs/\e.key= .agg ⟨vs⟩/\
  ((d=eT/\∀B,tk=some (B,ds)->β.o B=some e.val)\/∃rs,d= .sl rs/\lQ β b es ty rs e.val)
 inj:∀(i j:Nat) (r r':Di) (e e':MapEntry) (c:Nat),rows[i]? =some r->rows[j]? =some r'->r[1]?≠some eT->r'[1]?≠some eT->jU[i]? =some e->jU[j]? =some e'->tR e.val=some c->tR e'.val=some c->i=j
 key:∀(i j:Nat) (r r':Di),rows[i]? =some r->rows[j]? =some r'->r[0]? =r'[0]?->i=j
theorem lP.mono{β β':ai}(hz:∀b c,β.z b=some c->β'.z b=some c)(ho:∀B v,β.o B=some v->β'.o B=some v)(hy:∀c h,β.y c=some h->h.own=b->β'.y c=some h){tk:Option (Nat×List D)}{rows:Ca}{jU:FP}(h:lP β b es ty ks tk rows jU):lP β' b es ty ks tk rows jU:=
 ⟨h.len,fun i row e a1 a2=>by
  obtain⟨ds,vs,d,x,y,u,w⟩:=h.row i row e a1 a2;exact⟨ds,vs,d,x,y,u,w.imp (fun⟨p,q⟩=>⟨p,fun B e=>ho B _ (q B e)⟩) fun⟨rs,p,q⟩=>⟨rs,p,q.mono hz hy⟩⟩,h.inj,h.key⟩
theorem lP.of_eq{β β':ai}(hz:β'.z=β.z)(hyy:β'.y=β.y){rows:Ca}{jU:FP}(h:lP β b es ty ks none rows jU):lP β' b es ty ks none rows jU:=
 ⟨h.len,fun i row e a1 a2=>by
  obtain⟨ds,vs,d,x,y,u,w⟩:=h.row i row e a1 a2;exact⟨ds,vs,d,x,y,u,w.imp (fun⟨p,q⟩=>⟨p,fun B e=>by cases e⟩) fun⟨rs,p,q⟩=>⟨rs,p,q.mono (fun b c e=>Ns) (fun c hh e _=>Ns)⟩⟩,h.inj,h.key⟩
def D7(δ:FM)(tk:Option (Nat×List xM))(td:Option (Nat×List D)):Prop:=match tk,td with
 |none,none=>True
 |some (B,k),some (B',k')=>B=B'/\aH (aX δ) k=some k'
 |_,_=>False
def bE2(z:GU)(ks:JI)(rows:Ca)(es:FP):Prop:=
 ∃iC,List.Perm rows iC/\pb z ks iC es/\∀(i j:Nat) (r r':Di),iC[i]? =some r->iC[j]? =some r'->r[0]? =r'[0]?->i=j
def pF(seen:Es)(rows:Ca):Ca:=(rows.zipIdx.filter fun p=> !seen.contains p.2).map (·.1)
def gB(β:ai)(l:Loc)(blk:aG)(o:Option Obj):Prop:=
 match blk.obj with
 | .cells cs=>∃aB e fz,o=some (.cells aB e fz)/\aB.size=l.sz/\l.d+cs.length<=l.sz/\(∀(i:Nat) (v:xM),cs[i]? =some v->∃v',aB[l.d+i]? =some v'/\aj β v v')/\
  (blk.ro=false->fz=(0,0))/\(blk.exact=true->l.d=0/\l.d+cs.length=l.sz)/\l.es=blk.es/\(blk.ty≠jN->e=blk.ty)
 | .loop st fr n ps a b=>∃r,o=some (.loop r)/\r.state=(match st with| .ready=> .ready| .busy=> .busy| .done _=> .done)/\r.pending=(match st with| .done j=>some j|_=>none)/\r.params=⟨ps⟩/\r.assign=a/\r.body=b/\r.tmps.size=n/\∀t,aj β (fr.get J t) (r.tmps.getD t undef)
 | .wO=>o=some (.deferred (some []))
 | .own c=>∃aB rows,o=some (.cells aB blk.ty (0,0))/\aB.size=l.sz/\aX β.d c=some (.sl rows)/\l.es=blk.es/\(∀row∈rows,row.length=l.es)/\l.d+rows.length*l.es<=l.sz/\
  ∀(i:Nat) (row:Di) (j:Nat) (d:D),rows[i]? =some row->row[j]? =some d->∃v,aB[l.d+(i*l.es+j)]? =some v/\Rd β.z d v
 | .maps c=>∃ae ck rows,o=some (.map ⟨ae⟩ ck)/\aX β.d c=some (.sl rows)/\vW β.z rows ae
 | .jC ks c=>∃ae ck rows,o=some (.map ⟨ae⟩ ck)/\aX β.d c=some (.sl rows)/\pb β.z ks rows ae/\ck=ae.length/\∀(i:Nat) (e:MapEntry),ae[i]? =some e->e.born=i
 | .gA ks c tk=>∃ae ck rows td,o=some (.map ⟨ae⟩ ck)/\aX β.d c=some (.sl rows)/\D7 β.d tk td/\lP β l.b blk.es blk.ty ks td rows ae/\ck=ae.length/\∀(i:Nat) (e:MapEntry),ae[i]? =some e->e.born=i
 | .rk ks c=>∃ae ck rows,o=some (.map ⟨ae⟩ ck)/\aX β.d c=some (.sl rows)/\bE2 β.z ks rows ae
 | .pG B c lc aB=>l.d=0/\∃lb rows left seen,o=some (.mapIter (some lb.b) rows.length ⟨seen⟩ rows.length)/\β B=some lb/\aX β.d c=some (.sl rows)/\aX β.d lc=some (.sl left)/\left=pF seen rows/\
  (aB=[]\/∃Gh i row,seen=Gh++[i]/\rows[i]? =some row/\aH (iF β.d) aB=some row)
 | .An B c lc fin=>l.d=0/\∃lb rows left seen,β B=some lb/\aX β.d c=some (.sl rows)/\aX β.d lc=some (.sl left)/\left=pF seen rows/\
  ((fin=true/\left=[]/\o=some (.mapIter (some lb.b) rows.length ⟨seen⟩ rows.length))\/(fin=false/\∃i j row,rows[j]? =some row/\left[i]? =some row/\pF (seen++[j]) rows=left.eraseIdx i/\o=some (.mapIter (some lb.b) rows.length ⟨seen++[j]⟩ rows.length)))
def jA(β:ai)(B:Nat)(blk:aG):Prop:=
 match blk.obj with
 | .own c=>∃rows,aX β.d c=some (.sl rows)/\((rows=[]/\β.o B=some (.slice none 0 0))\/∃l cap,β B=some l/\β.o B=some (.slice (some ⟨l.b,l.d,none⟩) rows.length cap)/\rows.length<=cap/\l.d+cap*l.es<=l.sz/\l.es=blk.es)
 |_=>True
theorem D7.mono{δ lh:FM}(h:∀v d,aX δ v=some d->aX lh v=some d){tk:Option (Nat×List xM)}{td:Option (Nat×List D)}(hk:D7 δ tk td):D7 lh tk td:=by
 unfold D7 at*;split at hk
 ·trivial
 ·exact⟨hk.1,rJ h hk.2⟩
 ·exact hk.elim
theorem gB.mono{β β':ai}(hb:β.le β'){l:Loc}{blk:aG}{o:Option Obj}(h:gB β l blk o)(hy:∀c h,β.y c=some h->h.own=l.b->β'.y c=some h:=by exact fun _ _ h _=>h):gB β' l blk o:=by
 unfold gB at*;cases hk:blk.obj with
 |cells cs=>
  simp only [hk] at h⊢;obtain⟨aB,e,fz,h1,h2,h3,h4,h5,h6,h7⟩:=h;exact⟨aB,e,fz,h1,h2,h3,fun i v hv=>(h4 i v hv).imp fun v' ⟨a,b⟩=>⟨a,b.mono hb⟩,h5,h6,h7⟩
 |loop bz fr n ps a b=>
  simp only [hk] at h⊢;obtain⟨r,h1,h2,h3,h4,h5,h6,h7,h8⟩:=h;exact⟨r,h1,h2,h3,h4,h5,h6,h7,fun t=>(h8 t).mono hb⟩
 |wO=>
  grind
 |own c=>
  simp only [hk] at h⊢;obtain⟨aB,rows,h1,h2,h3,h4,h5,h6,h7⟩:=h;exact⟨aB,rows,h1,h2,by rw[hb.d];exact h3,h4,h5,h6,fun i row j d a b=>(h7 i row j d a b).imp fun v ⟨x,y⟩=>⟨x,y.mono hb.z⟩⟩
 |maps c=>
  simp only [hk] at h⊢;obtain⟨ae,ck,rows,h1,h2,h3⟩:=h
  grind [hb.d,h3.mono,hb.z]
 |jC ks c=>
  simp only [hk] at h⊢;obtain⟨ae,ck,rows,h1,h2,h3,h4⟩:=h
  grind [hb.d,h3.mono,hb.z]
 |gA ks c tk=>
  simp only [hk] at h⊢;obtain⟨ae,ck,rows,td,h1,h2,h3,h4,h5⟩:=h
  grind [hb.d,h4.mono,hb.z,hb.o]
 |rk ks c=>
  simp only [hk] at h⊢;obtain⟨ae,ck,rows,h1,h2,iC,h3,h4,h5⟩:=h;exact⟨ae,ck,rows,h1,by rw[hb.d];exact h2,iC,h3,h4.mono hb.z,h5⟩
 |pG B c lc aB=>
  simp only [hk] at h⊢;obtain⟨h0,lb,rows,left,seen,h1,h2,h3⟩:=h;exact⟨h0,lb,rows,left,seen,h1,hb.f _ _ h2,by rw[hb.d];exact h3⟩
 |An B c lc fin=>
  simp only [hk] at h⊢;obtain⟨h0,lb,rows,left,seen,h1,h2,h3⟩:=h;exact⟨h0,lb,rows,left,seen,hb.f _ _ h1,by rw[hb.d];exact h2,by rw[hb.d];exact h3⟩
theorem jA.mono{β β':ai}(hb:β.le β'){blk:aG}(h:jA β B blk):jA β' B blk:=by
 grind [jA,hb.d,hb.o,hb.f]
structure nG (X:Nat->Prop) (w w':World):Prop where
 os:w'.os=w.os
 tape:w'.tape=w.tape
 output:w'.output=w.output
 size:w.heap.size<=w'.heap.size
 block:∀k,k<w.heap.size-> ¬X k->w'.heap[k]? =w.heap[k]?
theorem nG.refl(X:Nat->Prop)(w:World):nG X w w:=⟨rfl,rfl,rfl,xk _,fun _ _ _=>rfl⟩
theorem nG.trans{b c:World}(h:nG X a b)(k:nG X b c):nG X a c:=
 ⟨k.os.trans h.os,k.tape.trans h.tape,k.output.trans h.output,xH h.size k.size,fun i hi hx=>(k.block i (xK hi h.size) hx).trans (h.block i hi hx)⟩
theorem nG.alloc(h:nG X a w)(o:Obj):nG X a (w.alloc o):=
 ⟨h.os,h.tape,h.output,by have:=h.size;simp;omega,fun k hk hx=>(Below.heap_alloc w o k (xK hk h.size)).trans (h.block k hk hx)⟩
theorem nG.grown{row:Nat}(h:nG X a w)(hg:w.grownBy w' (some row))(hr:a.heap.size<=row\/X row):nG X a w':=
 ⟨hg.os.trans h.os,hg.tape.trans h.tape,hg.output.trans h.output,xH h.size hg.size,fun k hk hx=>(hg.block k (xK hk h.size) (fun e=>Ns)).trans (h.block k hk hx)⟩
theorem nG.below(h:nG X w w')(hx:∀k,¬X k):Below w.heap.size w w':=⟨h.os,h.tape,h.output,h.size,fun k hk=>h.block k hk (hx k)⟩
structure Inv (w0:World) (G:GP) (β:ai) (A:AW) (w:World):Prop where
 below:nG β.x.p w0 w
 ft:∀B l,β B=some l->B<A.next
 du:∀B,A.next<=B->A.get B=none
 loc:∀B l,β B=some l->l.b<w.heap.size/\(B<G.n\/(w0.heap.size<=l.b\/β.x l.b))
 inj:∀B B' l l',β B=some l->β B'=some l'->l.b=l'.b->(A.get B).isSome=true->(A.get B').isSome=true->B=B'
 cont:∀B blk l,A.get B=some blk->β B=some l->gB β l blk w.heap[l.b]?
 jn:∀g,g<G.n->∃l,β g=some l/\l.b=g/\l.d=0
 dB:∀b cs,β.z b=some cs->∃e fz,w.heap[b]? =some (.cells cs e fz)
 sep:∀B l blk,G.n<=B->β B=some l->A.get B=some blk->blk.still=false->β.z l.b=none
 dX:∀nd∈A.tape,G.Q β.d nd
 own:∀B blk,A.get B=some blk->jA β B blk
 iG:∀B v,β.o B=some v->B<A.next
 lay:G.L w0
 xg:∀b,β.x b->G.n<=b
 jM:G.n<=w0.heap.size
 zo:∀b c,β.z b=some c->β.x.z0 b=some c\/w0.heap.size<=b\/β.x b
 dP:∀b h,β.y b=some h->w.heap[b]? =some (.cells h.cs h.ty (0,0))/\β.z b=none/\(w0.heap.size<=b\/β.x b)/\∀B l,β B=some l->(A.get B).isSome=true->l.b≠b
def ai.put(β:ai)(B:Nat)(l:Loc):ai:={β with f:=fun X=>if X=B then some l else β X}
theorem ai.tL(β:ai)(B:Nat)(l:Loc)(X:Nat):(β.put B l) X=if X=B then some l else β X:=rfl
structure ai.grow (β β':ai) (n:Nat):Prop where
 f:∀B,B<n->β' B=β B
 z:∀b c,β.z b=some c->β'.z b=some c
 o:∀B,B<n->β'.o B=β.o B
 d:β'.d=β.d
 x:β'.x=β.x
theorem ai.dg(β:ai)(n:Nat):β.grow β n:=⟨fun _ _=>rfl,fun _ _ h=>h,fun _ _=>rfl,rfl,rfl⟩
theorem ai.iz{a b c:ai}{m:Nat}(h:a.grow b n)(k:b.grow c m)(hm:n<=m):a.grow c n:=
 ⟨fun B hB=>(k.f B MK).trans (h.f B hB),fun B l e=>k.z B l (h.z B l e),fun B hB=>(k.o B MK).trans (h.o B hB),k.d.trans h.d,k.x.trans h.x⟩
theorem ai.uW(β:ai)(n:Nat)(l:Loc):β.grow (β.put n l) n:=⟨fun B hB=>by rw[ai.tL,if_neg MK],fun _ _ h=>h,fun _ _=>rfl,rfl,rfl⟩
theorem ai.grow.le{β β':ai}(h:β.grow β' n)(hd:∀B l,β B=some l->B<n)(ho:∀B v,β.o B=some v->B<n):β.le β':=
 ⟨fun B l e=>(h.f B (hd B l e)).trans e,h.z,fun B v e=>(h.o B (ho B v e)).trans e,h.d,h.x⟩
section
variable{G:GP}{β:ai}{A:AW}
theorem AW.mR(A:AW)(blk:aG)(h:A.get A.next=none)(B:Nat):(A.add blk).get B=some blk/\B=A.next\/(A.add blk).get B=A.get B:=by
 by_cases hB:A.next=B
 ·subst hB;rcases T.tz none A.heap A.next (some blk) with e|e
  ·exact .inl ⟨e,rfl⟩
  ·exact .inr (e.1.trans h.symm)
 ·exact .inr (T.tA none A.heap _ _ _ hB)
theorem AW.gd(A:AW)(B:Nat)(o:Option aG)(C:Nat):(A.put B o).get C=o/\C=B\/(A.put B o).get C=none/\C=B\/(A.put B o).get C=A.get C/\C≠B:=by
 by_cases hB:B=C
 ·subst hB;rcases T.tz none A.heap B o with e|e
  ·exact .inl ⟨e,rfl⟩
  ·exact .inr (.inl ⟨e.1,rfl⟩)
 ·exact .inr (.inr ⟨T.tA none A.heap _ _ _ hB,Ne.symm hB⟩)
theorem Inv.gy(h:Inv w0 G β A w){β':ai}(hg:β.grow β' A.next):β.le β':=hg.le h.ft h.iG
theorem Inv.YY(h:Inv w0 G β A w)(hb:w.heap.size<=b):β.z b=none:=by
 cases hz:β.z b with
 |none=>rfl
 |some cs=>grind [Array.getElem?_eq_some_iff,h.dB]
theorem Inv.drew(h:Inv w0 G β A w)(n:Nat):Inv w0 G β A {w with drawn:=n}:=
 ⟨⟨h.below.os,h.below.tape,h.below.output,h.below.size,h.below.block⟩,h.ft,h.du,h.loc,h.inj,h.cont,h.jn,h.dB,h.sep,h.dX,h.own,h.iG,h.lay,h.xg,h.jM,h.zo,h.dP⟩
def vB(blk:aG):Prop:=∀c,blk.obj≠ .own c
theorem vB.ok{β:ai}{blk:aG}(h:vB blk):jA β B blk:=by
 unfold jA;split
 ·exact absurd (by assumption) (h _)
 ·trivial
theorem Uv{cs:KB}{o:Obj}(h:∃e fz,w.heap[b]? =some (.cells cs e fz)):∃e fz,(w.alloc o).heap[b]? =some (.cells cs e fz):=by
 grind [Below.heap_alloc,Array.getElem?_eq_some_iff]
theorem Inv.new(h:Inv w0 G β A w)(blk:aG)(o:Obj)(l:Loc)(hl:l.b=w.heap.size)(hb:gB (β.put A.next l) l blk (some o))(hp:vB blk:=by intro c h;cases h):
 Inv w0 G (β.put A.next l) (A.add blk) (w.alloc o)/\β.grow (β.put A.next l) A.next:=by
 have aN:β.le (β.put A.next l):=h.gy (ai.uW β A.next l);have hn:A.get A.next=none:=h.du _ (xk _);have aV:(w.alloc o).heap.size=w.heap.size+1:=NS
 have jm:∀B lb,β.put A.next l B=some lb->(B=A.next/\lb=l)\/(B≠A.next/\β B=some lb):=fun B lb e=>by
  rw[ai.tL] at e
  grind
 have gX:∀B,B≠A.next->(A.add blk).get B=A.get B:=fun B hB=>by
  grind [absurd,A.mR]
 refine⟨⟨h.below.alloc o,fun B lb e=> ?_,fun B hB=> ?_,fun B lb e=> ?_,fun B B' lb Bs e e' eG ha kR=> ?_,fun B k lb hk e=> ?_,fun g hg=> ?_,fun b cs hz=>Uv (h.dB b cs hz),fun B lb kb hG e ha hs=> ?_,h.dX,fun B k hk=> ?_,
  fun B v e=>Nat.lt_succ_of_lt (h.iG B v e),h.lay,h.xg,h.jM,h.zo,fun b hh hy=> ?_⟩,ai.uW β A.next l⟩
 ·show B<A.next+1;rcases jm B lb e with⟨rfl,_⟩|⟨_,e⟩
  ·omega
  ·exact Nat.lt_succ_of_lt (h.ft B lb e)
 ·have uK:A.next+1<=B:=hB
  grind [h.du]
 ·rw[aV];rcases jm B lb e with⟨rfl,rfl⟩|⟨_,e⟩
  ·grind [h.below.size]
  ·exact⟨Nat.lt_succ_of_lt (h.loc B lb e).1,(h.loc B lb e).2⟩
 ·rcases jm B lb e with⟨h1,h2⟩|⟨hB,f⟩<;>rcases jm B' Bs e' with⟨qN,TT⟩|⟨uK,f'⟩
  ·rw[h1,qN]
  ·have:=(h.loc B' Bs f').1;grind
  ·have:=(h.loc B lb f).1;grind
  grind [h.inj]
 ·rcases jm B lb e with⟨rfl,rfl⟩|⟨hB,e⟩
  ·rcases A.mR blk hn A.next with⟨e2,_⟩|e2
   ·grind [heap_alloc_new]
   grind
  ·rw[gX B hB] at hk;rw[Below.heap_alloc w o _ (h.loc B lb e).1];exact(h.cont B k lb hk e).mono aN
 ·grind [h.jn,aN.f]
 ·rcases jm B lb e with⟨rfl,rfl⟩|⟨hB,e⟩
  ·exact h.YY MK
  ·rw[gX B hB] at ha;exact h.sep B lb kb hG e ha hs
 ·rcases A.mR blk hn B with⟨e2,_⟩|e2
  ·grind [hp.ok]
  ·rw[e2] at hk;exact(h.own B k hk).mono aN
 ·obtain⟨y1,y2,y3,y4⟩:=h.dP b hh hy;have hb:=(Array.getElem?_eq_some_iff.1 y1).1;refine⟨by grind [Below.heap_alloc],y2,y3,fun B lb e ha=> ?_⟩
  grind
theorem Nw{cs:KB}(hw:w.grownBy w' (some B))(hb:b≠B)(h:∃e fz,w.heap[b]? =some (.cells cs e fz)):∃e fz,w'.heap[b]? =some (.cells cs e fz):=by
 grind [Array.getElem?_eq_some_iff,xC,hw.block]
theorem Inv.FN(h:Inv w0 G β A w){l:Loc}(hB:β B=some l)(hg:(A.get B).isSome=true):β.y l.b=none:=by
 cases hy:β.y l.b with
 |none=>rfl
 |some hh=>exact absurd rfl ((h.dP _ hh hy).2.2.2 B l hB hg)
theorem Vw(h:Inv w0 G β A w){l:Loc}(hw:w.grownBy w' (some l.b))(hB:β B=some l)(hg:(A.get B).isSome=true){A':AW}{hh:HY}(hy:β.y b=some hh)(lF:∀C,(A'.get C).isSome=true->(A.get C).isSome=true):
 w'.heap[b]? =some (.cells hh.cs hh.ty (0,0))/\β.z b=none/\(w0.heap.size<=b\/β.x b)/\∀C l,β C=some l->(A'.get C).isSome=true->l.b≠b:=by
 grind [Array.getElem?_eq_some_iff,xC,h.dP,hw.block]
theorem Inv.X0(h:Inv w0 G β A w)(B:Nat)(l:Loc)(blk blk':aG)(hg:A.get B=some blk)(hB:β B=some l)(hG:G.n<=B)
 (hw:w.grownBy w' (some l.b)) (aV:w'.heap.size=w.heap.size) (hb:gB β l blk' w'.heap[l.b]?) (hp:jA β B blk') (hz:∀cs,β.z l.b=some cs->∃e fz,w'.heap[l.b]? =some (.cells cs e fz)) (jZ:blk'.still=false->β.z l.b=none):Inv w0 G β (A.put B (some blk')) w':=by
 obtain⟨fM,aL⟩:=h.loc B l hB;have dK:w0.heap.size<=l.b\/β.x l.b:=aL.resolve_left MK;have lF:∀C,((A.put B (some blk')).get C).isSome=true->(A.get C).isSome=true:=fun C hs=>by
  grind [A.gd]
 refine⟨h.below.grown hw dK,h.ft,fun C hC=> ?_,fun C lc e=> ?_,fun C C' lc pV e e' eG ha kR=>h.inj C C' lc pV e e' eG (lF C ha) (lF C' kR),fun C k lc hk e=> ?_,h.jn,
  fun b cs e=> ?_,fun C lc kb EC e ha hs=> ?_,h.dX,fun C k hk=> ?_,h.iG,h.lay,h.xg,h.jM,h.zo,fun b hh hy=>Vw h hw hB (by rw[hg];rfl) hy lF⟩
 ·have My:A.next<=C:=hC
  grind [A.gd,h.ft,h.du]
 ·rw[aV];exact h.loc C lc e
 ·rcases A.gd B (some blk') C with⟨e2,rfl⟩|⟨e2,_⟩|⟨e2,bo⟩
  ·grind
  ·grind
  ·rw[e2] at hk;have bP:lc.b≠l.b:=fun eG=>bo (h.inj C B lc l e hB eG (by rw[hk];rfl) (by rw[hg];rfl))
   rw[hw.block lc.b (h.loc C lc e).1 (fun e3=>bP (xC e3))]
   grind [h.cont]
 ·by_cases p6:b=l.b
  ·grind
  ·exact Nw hw p6 (h.dB b cs e)
 ·rcases A.gd B (some blk') C with⟨e2,rfl⟩|⟨e2,_⟩|⟨e2,_⟩
  ·grind
  ·grind
  grind [h.sep]
 ·rcases A.gd B (some blk') C with⟨e2,rfl⟩|⟨e2,_⟩|⟨e2,_⟩
  ·grind
  ·grind
  grind [h.own]
theorem Inv.write(h:Inv w0 G β A w)(B:Nat)(l:Loc)(blk blk':aG)(hg:A.get B=some blk)(hB:β B=some l)(hG:G.n<=B)
 (hw:w.grownBy w' (some l.b)) (aV:w'.heap.size=w.heap.size) (hb:gB β l blk' w'.heap[l.b]?) (hp:jA β B blk':=by exact trivial) (hs:blk.still=false:=by rfl):Inv w0 G β (A.put B (some blk')) w':=by
 have hz:β.z l.b=none:=h.sep B l blk hG hB hg hs
 grind [h.X0]
theorem Inv.kill(h:Inv w0 G β A w)(B:Nat):Inv w0 G β (A.put B none) w:=by
 have lF:∀C k,(A.put B none).get C=some k->A.get C=some k:=fun C k hs=>by
  grind [A.gd]
 have Af:∀C,((A.put B none).get C).isSome=true->(A.get C).isSome=true:=fun C hs=>by
  cases hk:(A.put B none).get C with
  |none=>grind
  |some k=>grind
 refine⟨h.below,h.ft,fun C hC=> ?_,h.loc,fun C C' lc pV e e' eG ha kR=>h.inj C C' lc pV e e' eG (Af C ha) (Af C' kR),fun C k lc hk e=>h.cont C k lc (lF C k hk) e,h.jn,h.dB,
  fun C lc kb EC e ha hs=>h.sep C lc kb EC e (lF C kb ha) hs,h.dX,fun C k hk=>h.own C k (lF C k hk),h.iG,h.lay,h.xg,h.jM,h.zo,fun b hh hy=>⟨(h.dP b hh hy).1,(h.dP b hh hy).2.1,(h.dP b hh hy).2.2.1,fun C l e ha=>(h.dP b hh hy).2.2.2 C l e (Af C ha)⟩⟩
 cases hk:(A.put B none).get C with
 |none=>rfl
 |some k=>have:=h.du C hC;grind
theorem Inv.forget(h:Inv w0 G β A w)(B:Nat)(l:Loc)(blk:aG)(hg:A.get B=some blk)(hB:β B=some l)(hG:G.n<=B)
 (hw:w.grownBy w' (some l.b)) (aV:w'.heap.size=w.heap.size) (hs:blk.still=false:=by rfl):Inv w0 G β (A.put B none) w':=by
 obtain⟨fM,aL⟩:=h.loc B l hB;have dK:w0.heap.size<=l.b\/β.x l.b:=aL.resolve_left MK;have hz:β.z l.b=none:=h.sep B l blk hG hB hg hs;have lF:∀C k,(A.put B none).get C=some k->C≠B/\A.get C=some k:=fun C k hs=>by
  grind [A.gd]
 have Af:∀C,((A.put B none).get C).isSome=true->(A.get C).isSome=true:=fun C hs=>by
  cases hk:(A.put B none).get C with
  |none=>grind
  |some k=>grind
 refine⟨h.below.grown hw dK,h.ft,fun C hC=> ?_,fun C lc e=> ?_,fun C C' lc pV e e' eG ha kR=>h.inj C C' lc pV e e' eG (Af C ha) (Af C' kR),fun C k lc hk e=> ?_,h.jn,
  fun b cs e=>Nw hw (fun e2=>Ns) (h.dB b cs e),fun C lc kb EC e ha hs=>h.sep C lc kb EC e (lF C kb ha).2 hs,h.dX,fun C k hk=>h.own C k (lF C k hk).2,h.iG,h.lay,h.xg,h.jM,h.zo,fun b hh hy=>Vw h hw hB (by rw[hg];rfl) hy Af⟩
 ·cases hk:(A.put B none).get C with
  |none=>rfl
  |some k=>have:=h.du C hC;grind
 ·rw[aV];exact h.loc C lc e
 ·obtain⟨bo,hk⟩:=lF C k hk;have bP:lc.b≠l.b:=fun eG=>bo (h.inj C B lc l e hB eG (by rw[hk];rfl) (by rw[hg];rfl))
  rw[hw.block lc.b (h.loc C lc e).1 (fun e3=>bP (xC e3))]
  grind [h.cont]
end
def mk(k:xO):Nat:=match k with| .i8| .u8=>256| .i16| .u16=>65536| .i32| .u32=>4294967296| .i64| .u64=>18446744073709551616
def hk(k:xO):Nat:=match k with| .i8=>128| .i16=>32768| .i32=>2147483648| .i64=>9223372036854775808| .u8=>256| .u16=>65536| .u32=>4294967296| .u64=>18446744073709551616
def fR(k:xO)(n:Int):Int:=
 let r:=Int.rec (motive:=fun _=>Nat) (fun m=>Nat.mod m (mk k)) (fun m=>Nat.sub (Nat.sub (mk k) 1) (Nat.mod m (mk k))) n
 bs (Nat.ble (hk k) r) (Int.negSucc (Nat.sub (Nat.sub (mk k) r) 1)) (Int.ofNat r)
theorem JL(k:xO):(2^k.bits:Int)=(mk k:Nat):=by cases k<;>rfl
theorem Yt(k:xO):0<mk k:=by cases k<;>decide
theorem aS9(k:xO)(n:Int):n% (2^k.bits:Int)=(Int.rec (motive:=fun _=>Nat) (fun m=>Nat.mod m (mk k)) (fun m=>Nat.sub (Nat.sub (mk k) 1) (Nat.mod m (mk k))) n:Nat):=by
 rw[JL];have hp:=Yt k;cases n with
 |ofNat m=>rfl
 |negSucc m=>
  show Int.subNatNat (mk k) (Nat.succ (m%mk k))=((mk k - 1 - m%mk k:Nat):Int)
  grind [Nat.mod_lt,Int.subNatNat_of_le]
theorem lA(k:xO)(n:Int):fR k n=k.wrap n:=by
 have h:=aS9 k n;unfold fR IntKind.wrap;simp only [h];have hr:(Int.rec (motive:=fun _=>Nat) (fun m=>Nat.mod m (mk k)) (fun m=>Nat.sub (Nat.sub (mk k) 1) (Nat.mod m (mk k))) n:Nat)<mk k:=by
  have:=Int.emod_lt_of_pos n (show(0:Int)<2^k.bits by grind [JL,Yt]);rw[h,JL] at this;omega
 generalize (Int.rec (motive:=fun _=>Nat) (fun m=>Nat.mod m (mk k)) (fun m=>Nat.sub (Nat.sub (mk k) 1) (Nat.mod m (mk k))) n:Nat)=r at*;rw[JL];cases hb:Nat.ble (hk k) r with
 |true=>
  rw[fK];have aN:hk k<=r:=xh hb;have hs:k.signed=true/\(2^ (k.bits - 1):Int)=(hk k:Nat):=by
   cases k<;>first|exact⟨rfl,rfl⟩|(exfalso;simp only [hk,mk] at aN hr;omega)
  grind
 |false=>
  rw[kz];have bm: ¬hk k<=r:=fun h=>by grind [Nat.ble_eq_true_of_le]
  rw[if_neg]
  ·rfl
  ·intro hc;simp only [xf,decide_eq_true_eq,ge_iff_le] at hc;have:(2^ (k.bits - 1):Int)=(hk k:Nat):=by
    cases k<;>first|rfl|(exfalso;exact absurd hc.1 Pp)
   grind
def mC(a b:Int):Bool:=
 Int.rec (motive:=fun _=>Bool) (fun m=>Int.rec (motive:=fun _=>Bool) (fun n=>Nat.beq m n) (fun _=>false) b) (fun m=>Int.rec (motive:=fun _=>Bool) (fun _=>false) (fun n=>Nat.beq m n) b) a
theorem pM(m n:Nat):Nat.beq m n=decide (m=n):=by
 by_cases h:m=n
 ·subst h;simp
 grind [decide_eq_false,Nat.beq,absurd,xb]
theorem oU(a b:Int):mC a b=decide (a=b):=by
 cases a<;>cases b<;>simp only [mC,pM]<;>simp<;>omega
def kL(a b:Int):Bool:=
 Int.rec (motive:=fun _=>Bool) (fun m=>Int.rec (motive:=fun _=>Bool) (fun n=>Nat.blt m n) (fun _=>false) b) (fun m=>Int.rec (motive:=fun _=>Bool) (fun _=>true) (fun n=>Nat.blt n m) b) a
theorem ac0(m n:Nat):Nat.blt m n=decide (m<n):=by
 grind [decide_eq_true,Nat.ble_eq_true_of_le,decide_eq_false,Nat.blt,absurd,xh]
theorem oT(a b:Int):kL a b=decide (a<b):=by
 cases a with
 |ofNat m=>
  cases b with
  |ofNat n=>
   show Nat.blt m n=_;rw[ac0];simp
  |negSucc n=>
   show false=_
   grind
 |negSucc m=>
  cases b with
  |ofNat n=>
   show true=_
   grind
  |negSucc n=>
   show Nat.blt n m=_
   grind [ac0]
def pN(op:BinOp)(k:xO)(a b:Int):Option Int:=
 match a,b with
 | .ofNat m,.ofNat n=>
  match op with
  | .and=>some (fR k (.ofNat (Nat.land (Nat.mod m (mk k)) (Nat.mod n (mk k)))))
  | .or=>some (fR k (.ofNat (Nat.lor (Nat.mod m (mk k)) (Nat.mod n (mk k)))))
  | .xor=>some (fR k (.ofNat (Nat.xor (Nat.mod m (mk k)) (Nat.mod n (mk k)))))
  |_=>none
 |_,_=>none
theorem Nr(w m:Nat):(BitVec.ofInt w (Int.ofNat m)).toNat=m%2^w:=NS
theorem OE(k:xO):2^k.bits=mk k:=by cases k<;>rfl
theorem Jm{a b r:Int}(h:pN op k a b=some r)(P:Program)(w:World):(Op.intBits op k a b).run P w= .ok (.int k r) w/\(op= .and\/op= .or\/op= .xor):=by
 unfold pN at h;split at h
 ·split at h<;>cases h
  ·refine⟨?_,.inl rfl⟩;simp only [Op.intBits,lA,BitVec.toNat_and,Nr,OE];rfl
  ·refine⟨?_,.inr (.inl rfl)⟩;simp only [Op.intBits,lA,BitVec.toNat_or,Nr,OE];rfl
  ·refine⟨?_,.inr (.inr rfl)⟩;simp only [Op.intBits,lA,BitVec.toNat_xor,Nr,OE];rfl
 ·cases h
def ac2:xO->Nat| .i8=>0| .i16=>1| .i32=>2| .i64=>3| .u8=>4| .u16=>5| .u32=>6| .u64=>7
def dR(a b:xO):Bool:=Nat.beq (ac2 a) (ac2 b)
theorem qg{a b:xO}(h:dR a b=true):a=b:=by
 unfold dR at h;cases a<;>cases b<;>first|rfl|(exact absurd h Pp)
theorem aC{c:Bool}{t f r:α}(h:bs c t f=r):(c=true/\t=r)\/(c=false/\f=r):=by
 cases c
 ·exact .inr ⟨rfl,h⟩
 ·exact .inl ⟨rfl,h⟩
def rb(op:BinOp)(k:xO)(a b:Int):JJ:=
 match op with
 | .add=>some (.int k (fR k (Int.add a b)))
 | .sub=>some (.int k (fR k (Int.sub a b)))
 | .mul=>some (.int k (fR k (Int.mul a b)))
 | .quo=>bs (mC b 0) none (some (.int k (fR k (Int.tdiv a b))))
 | .rem=>bs (mC b 0) none (some (.int k (Int.tmod a b)))
 | .and=>(pN .and k a b).map (.int k)
 | .or=>(pN .or k a b).map (.int k)
 | .xor=>(pN .xor k a b).map (.int k)
 | .eql=>some (.bool (mC a b))
 | .neq=>some (.bool (not (mC a b)))
 | .lss=>some (.bool (kL a b))
 | .leq=>some (.bool (not (kL b a)))
 | .gtr=>some (.bool (kL b a))
 | .geq=>some (.bool (not (kL a b)))
 |_=>none
def A5(op:BinOp)(k:xO)(a:Int)(k':xO)(b:Int):JJ:=
 match op with
 | .shl=>bs (kL b 0) none (some (.int k (fR k (Int.mul a (.ofNat (Nat.pow 2 (Nat.min (Int.toNat b) k.bits)))))))
 | .shr=>bs (kL b 0) none (some (.int k (Int.fdiv a (.ofNat (Nat.pow 2 (Nat.min (Int.toNat b) k.bits))))))
 |op=>bs (dR k k') (rb op k a b) none
theorem W6(n:Nat):(2:Int)^n=Int.ofNat (2^n):=by
 grind
theorem MD(a b:Int):decide (a<=b)= !decide (b<a):=by
 grind
theorem aG9{a b:Int}{v:xM}(h:rb op k a b=some v)(t:xN)(P:Program)(w:World):
 (binOp op t (.int k a) (.int k b)).run P w= .ok v w/\∀β,aj β v v:=by
 unfold rb at h;split at h
 ·cases h;refine⟨?_,fun β=> .int _ _⟩;rw[lA];simp only [binOp,Op.intArith,ne_eq,not_true,if_false];rfl
 ·cases h;refine⟨?_,fun β=> .int _ _⟩;rw[lA];simp only [binOp,Op.intArith,ne_eq,not_true,if_false];rfl
 ·cases h;refine⟨?_,fun β=> .int _ _⟩;rw[lA];simp only [binOp,Op.intArith,ne_eq,not_true,if_false];rfl
 ·rcases aC h with⟨_,h⟩|⟨hc,h⟩
  ·cases h
  ·cases h;rw[oU] at hc;have hb: ¬b=0:=by simpa using hc
   refine⟨?_,fun β=> .int _ _⟩;rw[lA];simp[binOp,Op.intDiv,hb]
 ·rcases aC h with⟨_,h⟩|⟨hc,h⟩
  ·cases h
  ·cases h;rw[oU] at hc;have hb: ¬b=0:=by simpa using hc
   refine⟨?_,fun β=> .int _ _⟩;simp[binOp,Op.intDiv,hb]
 ·obtain⟨r,hr,rfl⟩:=xp.1 h;exact⟨by simp only [binOp,ne_eq,not_true,if_false];grind [Jm],fun β=> .int _ _⟩
 ·obtain⟨r,hr,rfl⟩:=xp.1 h;exact⟨by simp only [binOp,ne_eq,not_true,if_false];grind [Jm],fun β=> .int _ _⟩
 ·obtain⟨r,hr,rfl⟩:=xp.1 h;exact⟨by simp only [binOp,ne_eq,not_true,if_false];grind [Jm],fun β=> .int _ _⟩
 ·cases h;refine⟨?_,fun β=> .bool _⟩;rw[oU];simp[binOp,Op.intCmp];rfl
 ·cases h;refine⟨?_,fun β=> .bool _⟩;rw[oU];simp[binOp,Op.intCmp];rfl
 ·cases h;refine⟨?_,fun β=> .bool _⟩;rw[oT];simp[binOp,Op.intCmp]
 ·cases h;refine⟨?_,fun β=> .bool _⟩;rw[oT];simp[binOp,Op.intCmp];exact MD a b
 ·cases h;refine⟨?_,fun β=> .bool _⟩;rw[oT];simp[binOp,Op.intCmp]
 ·cases h;refine⟨?_,fun β=> .bool _⟩;rw[oT];simp[binOp,Op.intCmp];exact MD b a
 ·cases h
theorem aQ8{k':xO}{a b:Int}{v:xM}(h:A5 op k a k' b=some v)(t:xN)(P:Program)(w:World):
 (binOp op t (.int k a) (.int k' b)).run P w= .ok v w/\∀β,aj β v v:=by
 unfold A5 at h;split at h
 ·rcases aC h with⟨_,h⟩|⟨hc,h⟩
  ·cases h
  ·cases h;rw[oT] at hc;have hb: ¬b<0:=by simpa using hc
   refine⟨?_,fun β=> .int _ _⟩;rw[lA];simp only [binOp,Op.shift,if_neg hb,W6];rfl
 ·rcases aC h with⟨_,h⟩|⟨hc,h⟩
  ·cases h
  ·cases h;rw[oT] at hc;have hb: ¬b<0:=by simpa using hc
   refine⟨?_,fun β=> .int _ _⟩;simp only [binOp,Op.shift,if_neg hb,W6];rfl
 ·rcases aC h with⟨hk,h2⟩|⟨_,h2⟩
  ·grind [qg,hk,aG9]
  ·cases h2
def pA:List xO->List D->List D->Option Bool
 |[],[],[]=>some true
 |k::ks,.int k1 m::a,.int k2 n::b=>if k1=k/\k2=k then(pA ks a b).map fun r=>decide (m=n)&&r else none
 |_,_,_=>none
def ofInt(x:JJ):KA:=match x with|some (.int k n)=>some (.int k n)|some (.bool b)=>some (.bool b)|_=>none
def ak9(op:BinOp)(r:Bool):KA:=match op with| .eql=>some (.bool r)| .neq=>some (.bool !r)|_=>none
def J0(op:BinOp)(c:Nat)(x y:D):KA:=
 match x,y with
 | .int k a,.int k' b=>ofInt (A5 op k a k' b)
 | .str a,.str b=>match op with
  | .add=>if a.length+b.length<=9223372036854775807 then some (.str (a++b)) else none
  |op=>ak9 op (decide (a=b))
 | .ptr _ _,.o6=>if c=2/\op= .eql then some (.bool false) else none
 | .o6,.o6=>if c=2/\op= .eql then some (.bool true) else none
 |_,_=>none
def KK(op:UnOp)(x:D):KA:=
 match op,x with
 | .xor,.int k n=>if k.signed then none else(pN .xor k (.ofNat (Nat.sub (mk k) 1)) n).map (.int k)
 |_,_=>none
def Js(x i:D):KA:=match x,i with| .str l,.int _ (.ofNat m)=>(l[m]?).map fun b=> .int .u8 b.toNat|_,_=>none
def si:D->Ji| .int _ (.ofNat a)=>some a|_=>none
def FI(x:D)(a b:Ji):KA:=match x,a with| .str l,some a=>if a<=b.getD l.length/\b.getD l.length<=l.length then some (.str ((l.drop a).take (b.getD l.length - a))) else none|_,_=>none
def Fq(rows:Ca)(n:Nat):Bool:=match rows with|[]=>true|row::_=>decide (row.length=n)
def Ae(es:Nat)(x:D)(a b:Ji):KA:=match x,a with| .sl rows,some a=>if a<=b.getD rows.length/\b.getD rows.length<=rows.length/\(a=0\/Fq rows es=true) then some (.sl ((rows.drop a).take (b.getD rows.length - a))) else none|_,_=>none
def Jt(es:Nat)(x i:D):KA:=match x,i with| .sl rows,.int _ (.ofNat m)=>(rows[m]?).bind fun row=>if row.length=es then some (.ptr row 0) else none|_,_=>none
def KL(x:D):KA:=match x with| .ptr row o=>(row[o]?).bind fun d=>if d.cell then some d else none|_=>none
def JZ(n:Nat)(x:D):KA:=match x with| .ptr row o=>if o+n<=row.length then some (.agg ((row.drop o).take n)) else none|_=>none
def F'(ks:JI)(neg:Bool)(x y:D):KA:=match x,y with| .agg a,.agg b=>(pA ks a b).map fun r=> .bool (r !=neg)|_,_=>none
def PH(k:xO)(x:D):KA:=match x with| .int _ n=>some (.int k (k.wrap n))|_=>none
def Ga(x:D):KA:=match x with| .str l=>some (.str l)|_=>none
def OQ(x:D):KA:=match x with| .str l=>some (.int .i64 l.length)|_=>none
def CD(x:D):KA:=match x with| .sl rows=>some (.int .i64 rows.length)|_=>none
def PG(off:Nat)(x:D):KA:=match x with| .ptr row o=>some (.ptr row (o+off))|_=>none
def PF(x:D):KA:=match x with| .ptr row o=>some (.ptr row o)| .func f p q=>some (.func f p q)|_=>none
def D9(f:D->Option Nat->Option Nat->KA)(ds:Di):KA:=match ds with|[x,a,b]=>(si b).bind fun b=>f x (si a) (some b)|[x,a]=>f x (si a) none|_=>none
def tH(es:Nat):Nat->List D->Option (List (List D))
 |0,_=>some []
 |n+1,l=>if es<=l.length then(tH es n (l.drop es)).map fun r=>l.take es::r else none
theorem MQ:∀{n:Nat} {l:Di} {rows:Ca},tH es n l=some rows->rows.length=n/\(∀row∈rows,row.length=es)/\n*es<=l.length/\∀(i:Nat) (row:Di) (j:Nat) (d:D),rows[i]? =some row->row[j]? =some d->l[i*es+j]? =some d
 |0,l,rows,h=>by
  cases h
  grind
 |n+1,l,rows,h=>by
  unfold tH at h;split at h
  ·rename_i aN;obtain⟨r,hr,rfl⟩:=xp.1 h;obtain⟨h1,h2,h3,h4⟩:=MQ hr;have l5:(l.drop es).length=l.length - es:=List.length_drop;refine⟨by simp[h1],fun row eS=> ?_,?_,fun i row j d hi hj=> ?_⟩
   ·grind
   ·grind
   ·cases i with
    |zero=>
     grind
    |succ i=>
     grind
  ·cases h
def Gi(es:Nat)(d:D):Option (List (List D)):=
 match d with
 | .sl rows=>if rows.all (fun r=>r.length==es&&r.all D.cell) then some rows else none
 | .str l=>if es=1 then some (l.map fun b=>[.int .u8 (b.toNat:Nat)]) else none
 |_=>none
def mX(n bys:Nat):Bool:=decide (n<=9223372036854775807)&&decide (n*bys<=140737488355328)
def YM(es bys:Nat)(b x:D):KA:=
 match b with
 | .sl rows=>(Gi es x).bind fun q=>if mX (rows.length+q.length) bys then some (.sl (rows++q)) else none
 |_=>none
def yd(l:Di)(off n:Nat)(row:Bool):KA:=if off+n<=l.length then(if row then some (.agg ((l.drop off).take n)) else(l[off]?).bind fun d=>if d.cell then some d else none) else none
def GD(n i:D):KA:=match n,i with| .int _ (.ofNat n),.int _ (.ofNat m)=>some (.bool (decide (m<n)))| .sl rows,.int _ (.ofNat m)=>some (.bool (decide (m<rows.length)))|_,_=>none
def Wq(off n:Nat)(row:Bool)(x i:D):KA:=match x,i with| .sl rows,.int _ (.ofNat m)=>(rows[m]?).bind fun r=>yd r off n row|_,_=>none
def Wo(off:Nat)(x i:D)(ds:Di):KA:=match x,i with| .sl rows,.int _ (.ofNat m)=>(rows[m]?).bind fun r=>if off+ds.length<=r.length then some (.sl (rows.set m (r.take off++ds++r.drop (off+ds.length)))) else none|_,_=>none
def GC(es bys:Nat)(n c:D)(zs:Di):KA:=match n,c with| .int .i64 (.ofNat m),.int .i64 (.ofNat k)=>if zs.length=es/\m<=k/\mX k bys=true then some (.sl (List.replicate m zs)) else none|_,_=>none
def vo:List D->Option (List UInt8)|[]=>some []| .int .u8 (.ofNat n)::l=>if n<256 then(vo l).map fun r=>n.toUInt8::r else none|_=>none
def Kn(k:xO):Di->Int->KA
 |[],x=>some (.int k x)
 | .int _ y::r,x=>Kn k r (if x<y then y else x)
 |_::_,_=>none
def QR(ds:Di):KA:=match ds with| .int k x::r=>Kn k r x|_=>none
def Km(k:xO):Di->Int->KA
 |[],x=>some (.int k x)
 | .int _ y::r,x=>Km k r (if y<x then y else x)
 |_::_,_=>none
def QS(ds:Di):KA:=match ds with| .int k x::r=>Km k r x|_=>none
def N9(x n:D):KA:=match x,n with| .sl rows,.int .i64 m=>if m=(rows.length:Int)/\rows.length<=9223372036854775807 then(vo rows.flatten).map .str else none|_,_=>none
def Qm(s:EH):Di->Bool|[.str a,_]=>decide (s=a)|_=>false
def um(s:EH)(v:D):List (List D)->List (List D)|[]=>[[.str s,v]]|row::t=>if Qm s row then[.str s,v]::t else row::um s v t
def N'(m k v:D):KA:=match m,k with| .sl rows,.str s=>if v.cell then some (.sl (um s v rows)) else none|_,_=>none
def PI(n:Nat)(i x:D)(eJ:Di):KA:=
 match i,x with
 | .int _ (.ofNat m),.sl rows=>if rows.all (fun r=>r.length==1&&r.all D.cell)=true/\m<=n/\eJ.length=n then some (.agg (.int .i64 (min rows.length (n - m):Nat)::(eJ.take m++(rows.take (n - m)).flatten++eJ.drop (m+min rows.length (n - m))))) else none
 |_,_=>none
def kp:List D->List D->Bool|[],[]=>true| .int _ m::a,.int _ n::b=>decide (m=n)&&kp a b|_,_=>false
def kf(k:Di):Di->Bool|[.agg es,_]=>kp k es|_=>false
def sJ(k:Di)(v:D):List (List D)->List (List D)|[]=>[[.agg k,v]]|row::t=>if kf k row then[.agg k,v]::t else row::sJ k v t
def jG(k:Di):List (List D)->Option D|[]=>none|row::t=>if kf k row then row[1]? else jG k t
def NA(ks:JI)(m k v:D):KA:=match m,k with| .sl rows,.agg ds=>if(fc ks ds).isSome&&v.cell then some (.sl (sJ ds v rows)) else none|_,_=>none
def E6(ks:JI)(m k z:D):KA:=match m,k with| .sl rows,.agg ds=>if(fc ks ds).isSome then some ((jG ds rows).getD z) else none|_,_=>none
def yx(ks:JI)(m k z:D):KA:=match m,k with| .sl rows,.agg ds=>if(fc ks ds).isSome then some (.bool (jG ds rows).isSome) else none|_,_=>none
def cT(k:Di):List (List D)->Option Nat|[]=>none|row::t=>if kf k row then some 0 else(cT k t).map (· +1)
def Nb(ks:JI)(m k z:D):KA:=match m,k with| .sl rows,.agg ds=>if(fc ks ds).isSome&&z.cell then some (.agg [.sl (if(cT ds rows).isSome then rows else rows++[[.agg ds,z]]),(jG ds rows).getD z,.int .i64 ((cT ds rows).getD rows.length:Nat)]) else none|_,_=>none
def EZ(m s v:D):KA:=match m,s with| .sl rows,.int .i64 (.ofNat i)=>(match rows[i]? with|some [k,_]=>if v.cell then some (.sl (rows.set i [k,v])) else none|_=>none)|_,_=>none
def OP(c h:D):KA:=match c,h with| .sl rows,.int _ (.ofNat m)=>if m<=rows.length then some (.sl (rows.take m)) else none|_,_=>none
def Na(ks:JI)(m k:D):KA:=
 match m,k with
 | .sl rows,.agg ds=>if(fc ks ds).isSome then(match cT ds rows with
  |none=>some (.agg [.sl (rows++[[.agg ds,eT]]),.sl [],.int .i64 (rows.length:Nat)])
  |some j=>match rows[j]? with
   |some [_,.sl rs]=>some (.agg [.sl (rows.set j [.agg ds,eT]),.sl rs,.int .i64 (j:Nat)])
   |_=>none) else none
 |_,_=>none
def M9(ks:JI)(m k:D):KA:=
 match m,k with
 | .sl rows,.agg ds=>if(fc ks ds).isSome then(match cT ds rows with
  |none=>some (.agg [.sl rows,.sl []])
  |some j=>match rows[j]? with
   |some [_,.sl rs]=>some (.agg [.sl (rows.set j [.agg ds,eT]),.sl rs])
   |_=>none) else none
 |_,_=>none
def M'(ks:JI)(m k v:D):KA:=
 match m,k,v with
 | .sl rows,.agg ds,.sl rs=>if(fc ks ds).isSome then(match cT ds rows with
  |none=>some (.sl rows)
  |some j=>match rows[j]? with
   |some [_,.o6]=>some (.sl (rows.set j [.agg ds,.sl rs]))
   |_=>none) else none
 |_,_,_=>none
def ltK:List D->List D->Bool| .int _ a::l,.int _ b::r=>decide (a<b)||(decide (a=b)&&ltK l r)|_,_=>false
def L3(a b:Di):Bool:=match a,b with| .agg x::_,.agg y::_=>ltK x y|_,_=>false
def yG(r:Di):List (List D)->List (List D)|[]=>[r]|x::t=>if L3 r x then r::x::t else x::yG r t
def sD(l:Ca):Ca:=l.foldr yG []
def P5:Di->Bool|[.agg _,.sl _]=>true|_=>false
def Nc(m:D):KA:=match m with| .sl rows=>if rows.all P5 then some (.sl (sD rows)) else none|_=>none
def FJ(neg:Bool)(x:D):KA:=match neg,x with|false,.sl (_::_)=>some (.bool false)|_,_=>none
def aF(k:NK)(ds:Di):KA:=
 match k,ds with
 | .bin op c,[x,y]=>J0 op c x y
 | .te ks neg,[x,y]=>F' ks neg x y
 | .un op,[x]=>KK op x
 | .kS k,[x]=>PH k x
 | .EM,[x]=>Ga x
 | .GX,[x]=>OQ x
 | .sj,[x]=>CD x
 | .DH,[x,i]=>Js x i
 | .GM,ds=>D9 FI ds
 | .pR es,ds=>D9 (Ae es) ds
 | .tY es,[x,i]=>Jt es x i
 | .sB off,[x]=>PG off x
 | .ld,[x]=>KL x
 | .wa n,[x]=>JZ n x
 | .Gm,[x]=>PF x
 | .dB es n,ds=>if ds.length=n*es then(tH es n ds).map .sl else none
 | .Hb o,ds=>some (.ptr ds o)
 | .app es bys,[b,x]=>YM es bys b x
 | .iO,[n,i]=>GD n i
 | .pD off n row,[x,i]=>Wq off n row x i
 | .uu es off n row,i::ds=>match i with| .int _ (.ofNat m)=>yd ds (m*es+off) n row|_=>none
 | .kj off,x::i::ds=>Wo off x i ds
 | .n0 es bys,n::c::zs=>GC es bys n c zs
 | .strOf,ds=>(vo ds).map .str
 | .mx,ds=>QR ds
 | .mn,ds=>QS ds
 | .C2,[x,n]=>N9 x n
 | .C6,[m,k,v]=>N' m k v
 | .EO n,i::x::eJ=>PI n i x eJ
 | .tI ks,[m,k,v]=>NA ks m k v
 | .u5 ks,[m,k,z]=>E6 ks m k z
 | .ko ks,[m,k,z]=>yx ks m k z
 | .zV ks,[m,k,z]=>Nb ks m k z
 | .u4,[m,s,v]=>EZ m s v
 | .Dx,[c,h]=>OP c h
 | .Cy ks,[m,k]=>Na ks m k
 | .Cv ks,[m,k]=>M9 ks m k
 | .Cw ks,[m,k,v]=>M' ks m k v
 | .Cz,[m]=>Nc m
 | .AV n,[x]=>FJ n x
 |_,_=>none
def bY(δ:FM)(nd:Node):Prop:=
 match nd.k with
 | .call _=>True
 | .lV _=>True
 | .own _=>True
 | .sf _ _=>True
 |k=>∃ds d,aH (bR δ) nd.args=some ds/\iF δ nd.res=some d/\aF k ds=some d
section
variable{β:ai}
theorem FH{v:xM}{d:D}(h:aX β.d v=some d)(hv:aj β v v'):Rd β.z d v'/\d.cell=true:=by
 unfold aX at h;split at h
 ·rename_i c;obtain⟨x,hx,h⟩:=xr.1 h;split at h<;>cases h
  cases hv with
  |sym _ d2 _ h2 hc hr=>grind
 ·cases h;cases hv;exact⟨.int _ _,rfl⟩
 ·cases h;cases hv;exact⟨.bool _,rfl⟩
 ·cases h;cases hv;exact⟨.str _,rfl⟩
 ·cases h;cases hv;exact⟨.o6,rfl⟩
 ·cases h;cases hv;exact⟨.qC,rfl⟩
 ·cases h;cases hv;exact⟨.AU,rfl⟩
 ·cases h;cases hv;exact⟨.AT,rfl⟩
 ·cases h;cases hv;exact⟨.AS,rfl⟩
 ·cases h;cases hv with
  |func f p p' q q' hp hq _ _=>exact⟨.func _ [] [] p' q' hp hq (fun i d v h=>by simp at h) (fun i d v h=>by simp at h),rfl⟩
 ·cases h
theorem pz{g:xM->KA}:∀{l:C3} {ds:Di},aH g l=some ds->ds.length=l.length
 |[],ds,h=>by cases h;rfl
 |v::l,ds,h=>by
  unfold aH at h;split at h
  ·rename_i h1 h2;cases h;simp[pz h2]
  ·cases h
theorem nX{g:xM->KA}:∀{l:C3} {ds:Di},aH g l=some ds->∀{i:Nat} {d:D} {v:xM},ds[i]? =some d->l[i]? =some v->g v=some d
 |[],ds,h,i,d,v,h1,h2=>by simp at h2
 |v::l,ds,h,i,d,u,h1,h2=>by
  unfold aH at h;split at h
  ·rename_i x r hx hr;cases h;cases i with
   |zero=>simp at h1 h2;subst h1;subst h2;exact hx
   |succ i=>simp at h1 h2;exact nX hr h1 h2
  ·cases h
theorem fx{v:xM}{d:D}(h:bR β.d v=some d)(hv:aj β v v'):Rd β.z d v':=by
 unfold bR at h;split at h
 ·rename_i l;obtain⟨ds,h1,rfl⟩:=xp.1 h;cases hv with
  |agg _ p' hp h2=>
   refine .agg ds p' ((pz h1).trans hp) fun i d v' hd ee=> ?_
   have hi:i<l.length:=by rw[hp];exact(xe.1 ee).1
   grind [FH,nX,xc]
 grind [FH]
theorem rL{v:xM}{d:D}(h:eE β.d v=some d)(hv:Rd β.z d v'):aj β v v':=by
 unfold eE at h;split at h
 ·cases h
 ·rename_i gK;unfold aX at h;split at h
  ·obtain⟨x,hx,h⟩:=xr.1 h;split at h<;>cases h
   exact .sym _ _ _ hx (by assumption) hv
  ·cases h;cases hv;exact .int _ _
  ·cases h;cases hv;exact .bool _
  ·cases h;cases hv;exact .string _
  ·cases h;cases hv;exact .tW
  ·grind
  ·cases h;cases hv;exact .nilFunc
  ·cases h;cases hv;exact .nilIface
  ·cases h;cases hv;exact .AX
  ·cases h;cases hv with
   |func f p q p' q' hp hq _ _=>
    exact .func _ [] p' [] q' hp hq (fun i v v' h=>by simp at h) (fun i v v' h=>by simp at h)
  ·cases h
theorem uV{v:xM}{d:D}(h:iF β.d v=some d)(hv:Rd β.z d v'):aj β v v':=by
 unfold iF at h;split at h
 ·rename_i l;obtain⟨ds,h1,rfl⟩:=xp.1 h;cases hv with
  |agg _ p' hp h2=>
   refine .agg l p' ((pz h1).symm.trans hp) fun i v v' hl ee=> ?_
   have hi:i<ds.length:=by rw[hp];exact(xe.1 ee).1
   grind [rL,nX,xc]
 ·exact rL h hv
end
structure Row where
 desc:TypeDesc
 size:Nat
 bytes:Nat
 zero:C3
 uj:Bool
structure az where
 ti:T (Option Row)
 fn:T (Option Func)
 ne:Es
 mz:List (Nat×Nat)
 lay:List (Nat×Nat×Nat)
 G:GP
def aZ0(d:TypeDesc):Bool:=match d with| .struct _| .array _ _=>true|_=>false
structure az.Ok (E:az) (P:Program):Prop where
 mixed:P.follows .mixedOrders=true
 ti:∀t r,E.ti.get none t=some r->P.underlying t=some r.desc/\∃i,P.info? t=some i/\i.size=r.size/\i.bytes=r.bytes/\(r.uj=true->∃z,i.zero=some z/\z.cells=⟨r.zero⟩)
 fn:∀f fn,E.fn.get none f=some fn->P.funcs[f]? =some fn/\(fn.name== "runtime.NumGoroutine")=false
 zr:∀t r i z,E.ti.get none t=some r->P.info? t=some i->r.uj=true->i.zero=some z->z=(match r.desc with| .struct _=> .agg ⟨r.zero⟩| .array _ _=> .agg ⟨r.zero⟩|_=>match r.zero with|[c]=>c|_=>z)/\(aZ0 r.desc=false->∃c,r.zero=[c])
 ne:∀f,f∈E.ne->∀(x:xM) (w:World),(callFunc f #[x]).run P w= .ok (.value x) w
 mz:∀f t,(f,t)∈E.mz->∃ps,∀(args:KB) (w:World),(callFunc f args).run P w=(do pure (.value (<-Extern.BytealgMakeNoZero.makeNoZero ps #[t] args)):Sem Next).run P w
 lay:∀e u o,(e,u,o)∈E.lay->liesAt P P.depth e 1 o u 1=true
 any:∀r,E.ti.get none jN≠some r
 q:∀δ nd,E.G.Q δ nd->bY δ nd
 lx:∀w w':World,E.G.L w->(∀b,b<E.G.n->w'.heap[b]? =w.heap[b]?)->E.G.L w'
def C0{ρ:Type}(b:Bool->xM->ρ)(i:xO->Int->xM->ρ)(s:ByteArray->xM->ρ)(p:Option Addr->xM->ρ)(sl:Option Addr->Nat->Nat->xM->ρ)(ag:KB->xM->ρ)(o:xM->ρ)(v:xM):xM->ρ:=
 @Value.rec (fun _=>xM->ρ) (fun _=>PUnit) (fun _=>PUnit) b i (fun _ _=>o) (fun _ _ _=>o) s p sl (fun _=>o) (fun _=>o) (fun _ _ _ _ _=>o) o (fun _ _ _=>o) o (fun c _=>ag c) (fun _ _=>o) (fun _ _=>PUnit.unit) PUnit.unit (fun _ _ _ _=>PUnit.unit) v
def Ka(v:xM):xM:=
 match v with
 | .map none=> .map none
 | .nilFunc=> .nilFunc
 | .nilIface=> .nilIface
 |_=>J
theorem tC(β:ai)(v:xM):aj β (Ka v) v:=by
 unfold Ka;split
 ·exact .AX
 ·exact .nilFunc
 ·exact .nilIface
 ·exact .jT _
def J'(a:Option Addr)(n c:Nat):xM:=match a,n,c with|none,0,0=> .slice none 0 0|_,_,_=>J
def rj(v:xM):xM:=
 C0 (fun _ v=>v) (fun _ _ v=>v) (fun _ v=>v) (fun a _=>match a with|none=> .pointer none|some _=>J) (fun a n c _=>J' a n c) (fun _ _=>J) Ka v v
theorem Fi(β:ai)(v:xM):aj β (rj v) v:=by
 cases v with
 |bool b=>exact .bool _
 |int k n=>exact .int _ _
 |string s=>exact .string _
 |pointer a=>cases a with
  |none=>exact .tW
  |some a=>exact .jT _
 |slice a n c=>
  show aj β (J' a n c) _;unfold J';split
  ·exact .yb
  ·exact .jT _
 |agg c=>exact .jT _
 |float k b=>exact tC β (.float k b)
 |complex k a b=>exact tC β (.complex k a b)
 |map r=>exact tC β (.map r)
 |chan r=>exact tC β (.chan r)
 |func f p q=>exact tC β (.func f p q)
 |nilFunc=>exact tC β .nilFunc
 |iface t v=>exact tC β (.iface t v)
 |nilIface=>exact tC β .nilIface
 |tuple c=>exact tC β (.tuple c)
def Q7(v:xM):xM:=
 match v with
 | .tuple ⟨[]⟩=> .tuple ⟨[]⟩
 |v=>Ka v
def hZ(v:xM):xM:=
 C0 (fun _ v=>v) (fun _ _ v=>v) (fun _ v=>v) (fun a _=>match a with|none=> .pointer none|some _=>J) (fun a n c _=>J' a n c) (fun c _=> .agg ⟨fC rj c.toList⟩) Q7 v v
theorem Ch(β:ai)(l:C3):aZ β (fC rj l) l:=by
 rw[qc];refine⟨NS,fun i v v' h h'=> ?_⟩
 grind [Fi]
theorem uU(β:ai)(v:xM):aj β (Q7 v) v:=by
 unfold Q7
 grind [aj.rK,aZ.nil,tC]
theorem aM6(β:ai)(v:xM):aj β (hZ v) v:=by
 cases v with
 |bool b=>exact .bool _
 |int k n=>exact .int _ _
 |string s=>exact .string _
 |pointer a=>exact Fi β (.pointer a)
 |slice a n c=>exact Fi β (.slice a n c)
 |agg c=>
  obtain⟨l⟩:=c;exact aj.mU (Ch β l)
 |float k b=>exact uU β (.float k b)
 |complex k a b=>exact uU β (.complex k a b)
 |map r=>exact uU β (.map r)
 |chan r=>exact uU β (.chan r)
 |func f p q=>exact uU β (.func f p q)
 |nilFunc=>exact uU β .nilFunc
 |iface t v=>exact uU β (.iface t v)
 |nilIface=>exact uU β .nilIface
 |tuple c=>exact uU β (.tuple c)
abbrev Fr:=T xM
abbrev Gt:=Nat->xM
def ev(E:az)(fr:Gt)(x:Operand):xM:=
 Operand.rec (motive:=fun _=>az->Gt->xM) (fun t _ fr=>fr t) (fun v _ _=>hZ v) (fun g E _=>bs (Nat.blt g E.G.n) (.pointer (some ⟨g,0,none⟩)) J) (fun f _ _=> .func (.func f) ⟨[]⟩ ⟨[]⟩) x E fr
def bU(β:ai)(n:Nat)(fr:Gt)(tmps:KB):Prop:=tmps.size=n/\∀t,aj β (fr t) (tmps.getD t undef)
theorem bU.mono{β β':ai}(hb:β.le β'){fr:Gt}{tmps:KB}(h:bU β n fr tmps):bU β' n fr tmps:=⟨h.1,fun t=>(h.2 t).mono hb⟩
theorem bU.put{β:ai}{n:Nat}{fr:Fr}{tmps:KB}(h:bU β n (fr.get J) tmps){d:Nat}(hd:d<n){v v':xM}(hv:aj β v v'):bU β n ((fr.set d v).get J) (tmps.setIfInBounds d v'):=by
 refine⟨by simp[h.1],fun t=> ?_⟩;by_cases uG:d=t
 ·subst uG;have hs:d<tmps.size:=by rw[h.1];exact hd
  have:(tmps.setIfInBounds d v').getD d undef=v':=by simp[hs]
  rw[this];rcases T.tz J fr d v with e|e
  ·grind
  ·rw[e.1];exact .jT _
 ·rw[T.tA J fr d t v uG];have:(tmps.setIfInBounds d v').getD t undef=tmps.getD t undef:=by simp[Array.getElem?_setIfInBounds_ne uG]
  rw[this];exact h.2 t
section
variable{P:Program}{E:az}(ok:E.Ok P){β:ai}{A:AW}(inv:Inv w0 E.G β A w)
include inv
theorem kB{fr:Gt}{a:Act}(hf:bU β n fr a.tmps)(x:Operand):aj β (ev E fr x) (a.eval x):=by
 cases x with
 |tmp t=>exact hf.2 t
 |const v=>exact aM6 β v
 |global g=>
  show aj β (bs (Nat.blt g E.G.n) (.pointer (some ⟨g,0,none⟩)) J) (.pointer (some ⟨g,0,none⟩));cases hb:Nat.blt g E.G.n with
  |false=>exact .jT _
  |true=>
   obtain⟨l,hl,bP,hd⟩:=inv.jn g (xh hb);have:=aj.ptr (β:=β) g 0 l hl;rw[bP,hd] at this;exact this
 |func f=>exact aj.XC (aZ.nil β) (aZ.nil β)
def jP(A:AW)(B:Nat):Option (List xM):=
 match A.get B with
 |some ⟨.cells cs,_,_,_,_⟩=>some cs
 |_=>none
omit inv in
theorem ap3(h:jP A B=some cs):∃es ex ro ty,A.get B=some ⟨.cells cs,es,ex,ro,ty⟩:=by
 grind [jP]
theorem VD(h:jP A B=some cs){l:Loc}(hl:β B=some l):∃aB e fz,w.heap[l.b]? =some (.cells aB e fz)/\aB.size=l.sz/\l.d+cs.length<=l.sz/\
 (∀(i:Nat) (v:xM),cs[i]? =some v->∃v',aB[l.d+i]? =some v'/\aj β v v'):=by
 obtain⟨es,ex,ro,ty,hg⟩:=ap3 h;have:=inv.cont B _ l hg hl;obtain⟨aB,e,fz,h1,h2,h3,h4,_⟩:=this
 grind
theorem Cc(h:jP A B=some cs){l:Loc}(hl:β B=some l)(o n:Nat)(r:C3)(hr:pE n (ra o cs)=some r):
 ∃r',aZ β r r'/\r.length=n/\w.rangeAt l.b (l.d+o) r':=by
 obtain⟨aB,e,fz,h1,h2,h3,h4⟩:=VD inv h hl;rw[Fp] at hr;obtain⟨ey,bE⟩:=Fm n _ r hr;rw[List.length_drop] at bE;by_cases hn:n=0
 ·subst hn;have:r=[]:=by rw[ey];rfl
  subst this;exact⟨[],aZ.nil β,rfl,fun j v hv=>by simp at hv⟩
 ·have hon:o+n<=cs.length:=MK
  have aE:r.length=n:=by rw[ey,xz,List.length_drop];omega
  have key:∀i v,r[i]? =some v->i<n/\∃v',aB[l.d+o+i]? =some v'/\aj β v v':=fun i v hv=>by
   grind
  have df:∀j,j<n->aB[l.d+o+j]? =some (aB.getD (l.d+o+j) undef):=fun j hj=>by
   have:l.d+o+j<aB.size:=MK
   simp[this]
  refine⟨(List.range n).map (fun j=>aB.getD (l.d+o+j) undef),⟨by simp[aE],fun i v v' hv ee=> ?_⟩,aE,fun j v hv=> ?_⟩
  ·obtain⟨hi,u,hu,cF⟩:=key i v hv;rw[xx,List.getElem?_range hi] at ee;simp only [Option.map_some,Option.some.injEq] at ee;rw[df i hi] at hu;cases hu;rw[<-ee];exact cF
  ·have hj:j<n:=by have:=(xe.1 hv).1;simpa using this
   rw[xx,List.getElem?_range hj] at hv;simp only [Option.map_some,Option.some.injEq] at hv;rw[cell_of_row w l.b _ aB e fz h1,<-hv,df j hj]
include ok
omit inv in
theorem eZ{r:Row}(h:E.ti.get none t=some r)(w:World):(sizeOf t).run P w= .ok r.size w:=by
 obtain⟨_,i,hi,hs,_⟩:=ok.ti t r h;simp[sizeOf,typeInfo,hi,hs]
def mT(d:TypeDesc):Bool:=match d with| .struct _| .array _ _=>true|_=>false
omit inv in
theorem E7{r:Row}(h:E.ti.get none t=some r)(w:World):(isAgg t).run P w= .ok (mT r.desc) w:=by
 have hu:=(ok.ti t r h).1;cases hd:r.desc<;>simp[isAgg,run_underlying hu,hd,mT]
def yr(E:az)(A:AW)(t:xN)(x:xM):JJ:=
 match x with
 | .pointer (some ⟨B,o,none⟩)=>
  match jP A B,E.ti.get none t with
  |some cs,some r=>bs (mT r.desc) (match pE r.size (ra o cs) with|some l=>some (.agg ⟨l⟩)|none=>none) (dM cs o)
  |_,_=>none
 |_=>none
theorem Xo{x v:xM}(h:yr E A t x=some v)(hx:aj β x x'):∃v',(Instr.loadAt t x').run P w= .ok v' w/\aj β v v':=by
 unfold yr at h;split at h
 ·rename_i B o;split at h
  ·rename_i cs r hc hr;cases hx with
   |ptr _ _ l hl=>
    have zl:=E7 ok hr;rcases aC h with⟨hd,h⟩|⟨hd,h⟩
    ·split at h
     ·rename_i q hq;cases h;obtain⟨q',Mf,aE,ao⟩:=Cc inv hc hl o r.size q hq;refine⟨.agg q'.toArray,?_,aj.mU Mf⟩;have aL:(loadCells ⟨l.b,l.d+o,none⟩ r.size).run P w= .ok q'.toArray w:=by
       rw[<-aE,Mf.1];exact run_loadCells_list (P:=P) w ⟨l.b,l.d+o,none⟩ q' (fun j u hu=>by rw[Addr.add_mid];exact ao j u hu)
      simp[Instr.loadAt,Instr.sureAddr,loadVar,zl,hd,eZ ok hr,aL]
     ·cases h
    ·rw[gg] at h;obtain⟨aB,e,fz,h1,_,_,h4⟩:=VD inv hc hl;obtain⟨v',ee,iS⟩:=h4 o v h;refine⟨v',?_,iS⟩;have iP:w.cell? ⟨l.b,l.d+o,none⟩=some v':=by rw[cell_of_row w l.b _ aB e fz h1];exact ee
     simp[Instr.loadAt,Instr.sureAddr,loadVar,zl,hd,load,Sem.run,iP]
  ·cases h
 ·cases h
def bl1(E:az)(A:AW)(t:xN)(B o:Nat):JJ:=
 match jP A B,E.ti.get none t with
 |some cs,some r=>bs (mT r.desc) (match pE r.size (ra o cs) with|some l=>some (.agg ⟨l⟩)|none=>none) (dM cs o)
 |_,_=>none
def bl0(E:az)(A:AW)(t:xN)(a:Option Addr):JJ:=match a with|some ⟨B,o,none⟩=>bl1 E A t B o|_=>none
def Qk(E:az)(A:AW)(t:xN)(x:xM):JJ:=
 C0 (ρ:=az->AW->xN->JJ) (fun _ _ _ _ _=>none) (fun _ _ _ _ _ _=>none) (fun _ _ _ _ _=>none) (fun a _ E A t=>bl0 E A t a) (fun _ _ _ _ _ _ _=>none) (fun _ _ _ _ _=>none) (fun _ _ _ _=>none) x x E A t
omit ok inv in
theorem aF4(E:az)(A:AW)(t:xN)(x:xM):Qk E A t x=yr E A t x:=by
 cases x with
 |pointer a=>
  cases a with
  |none=>rfl
  |some a=>
   obtain⟨B,o,m⟩:=a;cases m<;>rfl
 |_=>rfl
def Kf(E:az)(t:xN)(cs:C3)(o:Nat):JJ:=
 match E.ti.get none t with
 |some r=>bs (mT r.desc) (match pE r.size (ra o cs) with|some l=>some (.agg ⟨l⟩)|none=>none) (dM cs o)
 |none=>none
omit inv in
theorem W9{bB:C3}{o:Nat}{v:xM}(h:Kf E t cs o=some v)(hx:aZ β cs bB)(w:World):∃v',(part t ⟨bB⟩ o).run P w= .ok v' w/\aj β v v':=by
 unfold Kf at h;split at h
 ·rename_i r hr;have zl:=E7 ok hr;rcases aC h with⟨hd,h⟩|⟨hd,h⟩
  ·split at h
   ·rename_i q hq;cases h;rw[Fp] at hq;obtain⟨rfl,aN⟩:=Fm _ _ _ hq;refine⟨.agg ⟨(bB.drop o).take r.size⟩,?_,aj.mU ((hx.drop o).take r.size)⟩;have:(⟨bB⟩:KB).extract o (o+r.size)=⟨(bB.drop o).take r.size⟩:=by
     apply Array.ext';simp[Array.toList_extract]
    simp[part,zl,hd,eZ ok hr,this]
   ·cases h
  ·rw[gg] at h;obtain⟨v',ee,iS⟩:=hx.get h;refine⟨v',?_,iS⟩;simp[part,zl,hd,ee]
 ·cases h
def JX(E:az)(t:xN)(x:xM)(f:Nat):JJ:=
 match x,E.ti.get none t with
 | .agg ⟨cs⟩,some ⟨.struct ⟨fs⟩,_,_,_,_⟩=>match dM fs f with|some fd=>Kf E fd.type cs fd.offset|none=>none
 |_,_=>none
omit inv in
theorem aH7{x v:xM}{f:Nat}(h:JX E t x f=some v)(hx:aj β x x')(w:World):∃v',(Instr.field t x' f).run P w= .ok v' w/\aj β v v':=by
 unfold JX at h;split at h
 ·rename_i cs fs _ _ _ _ hr;split at h
  ·rename_i fd mK;rw[gg] at mK;cases hx with
   |agg _ p' hp h1=>
    obtain⟨v',ee,iS⟩:=W9 ok h ⟨hp,h1⟩ w;refine⟨v',?_,iS⟩;have hu:=(ok.ti t _ hr).1;simp[Instr.field,run_underlying hu,mK,asAgg,ee]
  ·cases h
 ·cases h
def IB(E:az)(t:xN)(x:xM)(f:Nat):JJ:=
 match x,E.ti.get none t with
 | .iface B (.agg ⟨[iv,.int .i64 (.ofNat es),.int .i64 (.ofNat off)]⟩),some ⟨.struct ⟨fs⟩,_,_,_,_⟩=>
  match dM fs f with
  |some fd=>match E.ti.get none fd.type with
   |some r=>bs (Nat.beq r.size 0) none (some (.iface B (.agg ⟨[iv,.int .i64 (.ofNat es),.int .i64 (.ofNat (Nat.add off fd.offset))]⟩)))
   |none=>none
  |none=>none
 | .pointer (some ⟨B,o,none⟩),some ⟨.struct ⟨fs⟩,_,_,_,_⟩=>
  match dM fs f with
  |some fd=>match E.ti.get none fd.type with
   |some r=>bs (Nat.beq r.size 0) none (some (.pointer (some ⟨B,Nat.add o fd.offset,none⟩)))
   |none=>none
  |none=>none
 |_,_=>none
omit inv in
theorem ap0{x v:xM}{f:Nat}(h:IB E t x f=some v)(hx:aj β x x')(w:World):∃v',(Instr.fieldAt t x' f).run P w= .ok v' w/\aj β v v':=by
 unfold IB at h;split at h
 ·rename_i B iv es off fs _ _ _ _ hr;split at h
  ·rename_i fd mK;rw[gg] at mK;split at h
   ·rename_i r bE;rcases aC h with⟨_,h⟩|⟨hz,h⟩
    ·cases h
    ·cases h;rw[pM] at hz;have sQ: ¬r.size=0:=by simpa using hz
     cases hx with
     |qv _ _ _ m l _ k hl hi=>
      refine⟨.pointer (some ⟨l.b,l.d+(m*es+(off+fd.offset)),none⟩),?_,.qv B es (off+fd.offset) m l iv k hl hi⟩;have hu:=(ok.ti t _ hr).1;simp[Instr.fieldAt,run_underlying hu,mK,Instr.sureAddr,fieldPlace,eZ ok bE,sQ,Addr.add_lit,Nat.add_assoc]
   ·cases h
  ·cases h
 ·rename_i B o fs _ _ _ _ hr;split at h
  ·rename_i fd mK;rw[gg] at mK;split at h
   ·rename_i r bE;rcases aC h with⟨_,h⟩|⟨hz,h⟩
    ·cases h
    ·cases h;rw[pM] at hz;have sQ: ¬r.size=0:=by simpa using hz
     cases hx with
     |ptr _ _ l hl=>
      refine⟨.pointer (some ⟨l.b,l.d+(o+fd.offset),none⟩),?_,.ptr B (o+fd.offset) l hl⟩;have hu:=(ok.ti t _ hr).1;simp[Instr.fieldAt,run_underlying hu,mK,Instr.sureAddr,fieldPlace,eZ ok bE,sQ,Addr.add_lit,Nat.add_assoc]
   ·cases h
  ·cases h
 ·cases h
def G3(i:xM)(len:Nat):Ji:=
 match i with
 | .int _ (.ofNat m)=>bs (Nat.blt m len) (some m) none
 |_=>none
omit inv ok in
theorem OG{i i':xM}{len m:Nat}(h:G3 i len=some m)(hi:aj β i i'):∃k,i'= .int k (m:Int)/\m<len:=by
 unfold G3 at h;split at h
 ·rename_i k q;rcases aC h with⟨hb,h⟩|⟨_,h⟩
  ·cases h;cases hi
   simp_all
  ·cases h
 ·cases h
def IA(E:az)(t:xN)(x i:xM):JJ:=
 match E.ti.get none t with
 |some ⟨.array len n8,_,_,_,_⟩=>
  match x,G3 i len,E.ti.get none n8 with
  | .pointer (some ⟨B,o,none⟩),some m,some r=>some (.pointer (some ⟨B,Nat.add o (Nat.mul m r.size),none⟩))
  |_,_,_=>none
 |some ⟨.slice n8,_,_,_,_⟩=>
  match x with
  | .slice (some ⟨B,o,none⟩) len _=>
   match G3 i len,E.ti.get none n8 with
   |some m,some r=>some (.pointer (some ⟨B,Nat.add o (Nat.mul m r.size),none⟩))
   |_,_=>none
  |_=>none
 |_=>none
omit inv in
theorem ao6{x i i' v:xM}(h:IA E t x i=some v)(hx:aj β x x')(hi:aj β i i')(w:World):∃v',(Instr.indexAt t x' i').run P w= .ok v' w/\aj β v v':=by
 unfold IA at h;split at h
 ·rename_i len n8 _ _ _ _ hr;split at h
  ·rename_i B o m r hm bE;cases h;obtain⟨k,rfl,bm⟩:=OG hm hi;cases hx with
   |ptr _ _ l hl=>
    refine⟨.pointer (some ⟨l.b,l.d+(o+m*r.size),none⟩),?_,.ptr B (o+m*r.size) l hl⟩;have hu:=(ok.ti t _ hr).1;have h0:(0:Int)<=(m:Int)/\(m:Int)<(len:Int):=⟨MK,MK⟩;simp[Instr.indexAt,asIntOf,run_underlying hu,Instr.sureAddr,eZ ok bE,Addr.add_lit,Nat.add_assoc,bm]
  ·cases h
 ·rename_i n8 _ _ _ _ hr;split at h
  ·rename_i B o len c;split at h
   ·rename_i m r hm bE;cases h;obtain⟨k,rfl,bm⟩:=OG hm hi;have hu:=(ok.ti t _ hr).1;cases hx with
    |slice _ _ _ _ c' l hl hn hc he=>
     refine⟨.pointer (some ⟨l.b,l.d+(o+m*r.size),none⟩),?_,.ptr B (o+m*r.size) l hl⟩;simp[Instr.indexAt,asIntOf,run_underlying hu,eZ ok bE,Addr.add_lit,Nat.add_assoc,bm]
    |empty=>omega
   ·cases h
  ·cases h
 ·cases h
def CP(E:az)(t:xN)(x i:xM):JJ:=
 match E.ti.get none t with
 |some ⟨.array len n8,_,_,_,_⟩=>
  match x,G3 i len,E.ti.get none n8 with
  | .agg ⟨cs⟩,some m,some r=>Kf E n8 cs (Nat.mul m r.size)
  |_,_,_=>none
 |some ⟨.string,_,_,_,_⟩=>
  match x,i with
  | .string ⟨⟨l⟩⟩,.int _ (.ofNat m)=>match dM l m with|some b=>some (.int .u8 (.ofNat b.toNat))|none=>none
  |_,_=>none
 |_=>none
omit inv in
theorem Co{x i i' v:xM}(h:CP E t x i=some v)(hx:aj β x x')(hi:aj β i i')(w:World):∃v',(Instr.index t x' i').run P w= .ok v' w/\aj β v v':=by
 unfold CP at h;split at h
 ·rename_i len n8 _ _ _ _ hr;split at h
  ·rename_i cs m r hm bE;obtain⟨k,rfl,bm⟩:=OG hm hi;have hu:=(ok.ti t _ hr).1;cases hx with
   |agg _ p' hp h1=>
    obtain⟨v',ee,iS⟩:=W9 ok h ⟨hp,h1⟩ w;refine⟨v',?_,iS⟩;have dJ:(part n8 ⟨p'⟩ (m*r.size)).run P w= .ok v' w:=ee;simp[Instr.index,asIntOf,run_underlying hu,eZ ok bE,bm,dJ]
  ·cases h
 ·rename_i _ _ _ _ hr;split at h
  ·rename_i l k m;split at h
   ·rename_i b hb;cases h;rw[gg] at hb;have hu:=(ok.ti t _ hr).1;cases hx;cases hi;refine⟨_,?_,.int .u8 b.toNat⟩;have hs:(⟨⟨l⟩⟩:ByteArray)[m]? =some b:=by
     have bm:=(xe.1 hb).1;have aV:m<(⟨⟨l⟩⟩:ByteArray).size:=bm;rw[getElem?_pos (⟨⟨l⟩⟩:ByteArray) m aV]
     congr 1
     exact(xe.1 hb).2
    simp[Instr.index,asIntOf,run_underlying hu,hs]
   ·cases h
  ·cases h
 ·cases h
def I0(x:xM)(i:Nat):JJ:=match x with| .tuple ⟨l⟩=>dM l i|_=>none
omit inv ok in
theorem au5{x v:xM}{i:Nat}(h:I0 x i=some v)(hx:aj β x x')(P:Program)(w:World):∃v',(Instr.extract x' i).run P w= .ok v' w/\aj β v v':=by
 unfold I0 at h;split at h
 ·rw[gg] at h;cases hx with
  |tuple _ p' hp h1=>
   obtain⟨v',ee,iS⟩:=aZ.get ⟨hp,h1⟩ h;exact⟨v',by simp[Instr.extract,ee],iS⟩
 ·cases h
def Hv(op:UnOp)(x:xM):JJ:=
 match op,x with
 | .neg,.int k n=>some (.int k (fR k (Int.sub 0 n)))
 | .xor,.int k n=>bs k.signed none ((pN .xor k (.ofNat (Nat.sub (mk k) 1)) n).map (.int k))
 | .not,.bool b=>some (.bool (not b))
 |_,_=>none
omit inv ok in
theorem Y0{op:UnOp}{x v:xM}(h:Hv op x=some v)(hx:aj β x x')(P:Program)(w:World):∃v',(Op.unary op x').run P w= .ok v' w/\aj β v v':=by
 unfold Hv at h;split at h
 ·cases h;cases hx;refine⟨_,?_,.int _ _⟩;rw[lA];simp only [Op.unary,Op.intArith];rfl
 ·rename_i k n;cases hx;rcases aC h with⟨_,h⟩|⟨hs,h⟩
  ·cases h
  ·obtain⟨r,hr,rfl⟩:=xp.1 h;refine⟨_,?_,.int k r⟩;have Ry:k.max=Int.ofNat (Nat.sub (mk k) 1):=by cases k<;>first|rfl|(exact absurd hs Pp)
   simp only [Op.unary,hs,Bool.false_eq_true,if_false,Ry]
   grind [Jm]
 ·cases h;cases hx;exact⟨_,rfl,.bool _⟩
 ·cases h
end
end
end Go.Ex
