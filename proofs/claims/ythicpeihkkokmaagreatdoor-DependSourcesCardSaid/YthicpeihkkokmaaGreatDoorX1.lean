/- A verified evaluator of Go functions. -/
import Derived.Below
import Derived.WalkKit
import Derived.Deep.MidRow
import Derived.Deep.AppendSrc
set_option linter.unusedVariables false
set_option linter.unusedSimpArgs false
namespace Go
variable{p:Prop}{α β:Type}{n m:Nat}
theorem _root_.Go.a0B(h:p:=by omega):p:=h
theorem _root_.Go.a0C(h:p:=by simp):p:=h
theorem _root_.Go.a0D(h:p:=by grind):p:=h
theorem _root_.Go.a0I(h:p:=by decide):p:=h
theorem xa{a b:List α}:(a++b).length=a.length+b.length:=List.length_append
theorem xb:Nat.beq n m=true->n=m:=Nat.eq_of_beq_eq_true
theorem xc{l:List α}{i:Nat}(h:i<l.length):l[i]? =some l[i]:=List.getElem?_eq_getElem h
theorem xd:([]:List α).length=0:=List.length_nil
theorem xe{i:Nat}{a:α}{l:List α}:l[i]? =some a↔∃h:i<l.length,l[i]=a:=List.getElem?_eq_some_iff
theorem xf(a b:Bool):((a&&b)=true)=(a=true/\b=true):=Bool.and_eq_true a b
theorem xh:Nat.ble n m=true->n<=m:=Nat.le_of_ble_eq_true
theorem xi{a:α}{l:List α}:(a::l).length=l.length+1:=List.length_cons
theorem xj{α:Type}(l:List α):l++[]=l:=List.append_nil l
theorem xk(n:Nat):n<=n:=Nat.le_refl n
theorem xm{l:List α}(f:α->β):(l.map f).length=l.length:=List.length_map f
theorem xn{a:α}{l:List α}:a∈a::l:=List.mem_cons_self
theorem xo(y:α){a:α}{l:List α}:a∈l->a∈y::l:=List.mem_cons_of_mem y
theorem xp{b:α}{γ:Type}{x:Option γ}{f:γ->α}:x.map f=some b↔∃a,x=some a/\f a=b:=Option.map_eq_some_iff
theorem xq{l m:List α}{i:Nat}:l.length<=i->(l++m)[i]? =m[i-l.length]?:=List.getElem?_append_right
theorem xr{b:α}{γ:Type}{x:Option γ}{f:γ->Option α}:x.bind f=some b↔∃a,x=some a/\f a=some b:=Option.bind_eq_some_iff
theorem xt{l:List α}{i:Nat}{a:α}:(l.set i a).length=l.length:=List.length_set
theorem xu{l:List α}{i:Nat}{a:α}:l[i]? =some a->a∈l:=List.mem_of_getElem?
theorem xw{l m:List α}{i:Nat}:i<l.length->(l++m)[i]? =l[i]?:=List.getElem?_append_left
theorem xx{f:α->β}{l:List α}{i:Nat}:(l.map f)[i]? =l[i]?.map f:=List.getElem?_map
theorem xy{a b:α}:a∈[b]↔a=b:=List.mem_singleton
theorem xz{i:Nat}{l:List α}:(l.take i).length=min i l.length:=List.length_take
theorem xA{l:List α}:l.length=0->l=[]:=List.eq_nil_of_length_eq_zero
theorem xB(a:α)(f:α->Option β):(some a).bind f=f a:=Option.bind_some a f
theorem xC{a b:α}:some a=some b->a=b:=Option.some.inj
theorem xD(k:Nat):n<=m->n*k<=m*k:=Nat.mul_le_mul_right k
theorem xE{l:List α}:l.length=0↔l=[]:=List.length_eq_zero_iff
theorem xF{a:α}{s t:List α}:a∈s++t↔a∈s\/a∈t:=List.mem_append
theorem xG{α:Type}{b:α}{l:List α}{a:α}:a∈b::l↔a=b\/a∈l:=List.mem_cons
theorem xH{k:Nat}:n<=m->m<=k->n<=k:=Nat.le_trans
theorem xI(n:Nat):n=0\/n>0:=Nat.eq_zero_or_pos n
theorem xJ{α β:Type}{b:β}{f:α->β}{l:List α}:b∈l.map f↔∃a,a∈l/\f a=b:=List.mem_map
theorem xK{k:Nat}:n<m->m<=k->n<k:=Nat.lt_of_lt_of_le
theorem xL(n:Nat):0<=n:=Nat.zero_le n
abbrev xM:=Value
abbrev a0x:=Array xM
abbrev a0t:=Option xM
abbrev a0n:=Nat->Option (Array xM)
abbrev a0e:=List xM
abbrev xN:=TypeId
abbrev xO:=IntKind
abbrev a0u:=List xO
abbrev a0c:=List (Nat×List xO)
end Go
namespace Go.Ex
variable{α:Type}{z z':a0n}{v' x' i':xM}{l l' p p' cs:a0e}{ks:a0u}{b es B n:Nat}{ty t:xN}{X:Nat->Prop}{a w w' w0:World}{op:BinOp}{k:xO}
abbrev a0A:=Option (List (List Item))
abbrev a0z:=Array MapEntry
abbrev a0r:=Option Nat
abbrev a0o:=List Oper
abbrev a0k:=List MapEntry
abbrev a0h:=List UInt8
abbrev a0g:=List Nat
abbrev a0f:=List (List Nat)
noncomputable section
def bs(b:Bool)(t f:α):α:= @Bool.rec (fun _=>α) f t b
theorem eQ(t f:α):bs true t f=t:=rfl
theorem ku(t f:α):bs false t f=f:=rfl
inductive T (α:Type) where
 |nil
 |node (l:T α) (v:α) (r:T α)
def T.get{α:Type}(d:α)(t:T α):Nat->α:=
 T.rec (motive:=fun _=>Nat->α) (fun _=>d)
  (fun _ v _ gl gr n=>Nat.rec (motive:=fun _=>α) v (fun p _=>Nat.rec (motive:=fun _=>α) (gl (Nat.div p 2)) (fun _ _=>gr (Nat.div p 2)) (Nat.mod p 2)) n) t
def T.set(t:T α):Nat->α->T α:=
 T.rec (motive:=fun _=>Nat->α->T α) (fun _ _=> .nil)
  (fun l v r sl sr n x=>Nat.rec (motive:=fun _=>T α) (.node l x r) (fun p _=>Nat.rec (motive:=fun _=>T α) (.node (sl (Nat.div p 2) x) v r) (fun _ _=> .node l v (sr (Nat.div p 2) x)) (Nat.mod p 2)) n) t
def T.full(d:α)(k:Nat):T α:=Nat.rec .nil (fun _ t=> .node t d t) k
section
theorem mm{β:Type}(x y:β)(p:Nat):Nat.rec (motive:=fun _=>β) x (fun _ _=>y) (Nat.mod p 2)=if p%2=0 then x else y:=by
 have h:p%2=0\/p%2=1:=a0B
 rcases h with h|h
 ·rw[if_pos h];show Nat.rec (motive:=fun _=>β) x (fun _ _=>y) (p%2)=x;rw[h];rfl
 ·rw[if_neg a0B];show Nat.rec (motive:=fun _=>β) x (fun _ _=>y) (p%2)=y;rw[h];rfl
theorem T.kN(d:α)(l r:T α)(v:α)(n:Nat):T.get d (.node l v r) n=if n=0 then v else if n%2=1 then l.get d (n/2) else r.get d (n/2 - 1):=by
 cases n with
 |zero=>rfl
 |succ p=>
  show Nat.rec (motive:=fun _=>α) (l.get d (p/2)) (fun _ _=>r.get d (p/2)) (Nat.mod p 2)=_;rw[mm,if_neg (show ¬p+1=0 by omega)]
  grind
theorem T.OZ(l r:T α)(v x:α)(n:Nat):T.set (.node l v r) n x=if n=0 then .node l x r else if n%2=1 then .node (l.set (n/2) x) v r else .node l v (r.set (n/2 - 1) x):=by
 cases n with
 |zero=>rfl
 |succ p=>
  show Nat.rec (motive:=fun _=>T α) (.node (l.set (p/2) x) v r) (fun _ _=> .node l v (r.set (p/2) x)) (Nat.mod p 2)=_;rw[mm,if_neg (show ¬p+1=0 by omega)]
  grind
theorem T.um(d:α)(t:T α):∀(i j:Nat) (x:α),i≠j->(t.set i x).get d j=t.get d j:=by
 induction t with
 |nil=>intros;rfl
 |node l v r hl hr=>
  intro i j x CJ;rw[T.OZ];by_cases h0:i=0
  ·subst h0;rw[if_pos rfl,T.kN,T.kN,if_neg (Ne.symm CJ),if_neg (Ne.symm CJ)]
  ·rw[if_neg h0];by_cases h1:i%2=1
   ·rw[if_pos h1,T.kN,T.kN]
    grind
   ·rw[if_neg h1,T.kN,T.kN]
    grind
theorem T.ul(d:α)(t:T α):∀(i:Nat) (x:α),(t.set i x).get d i=x\/((t.set i x).get d i=d/\t.get d i=d):=by
 induction t with
 |nil=>intro i x;exact .inr ⟨rfl,rfl⟩
 |node l v r hl hr=>
  intro i x;rw[T.OZ];by_cases h0:i=0
  ·subst h0;rw[if_pos rfl,T.kN,if_pos rfl];grind
  ·rw[if_neg h0];by_cases h1:i%2=1
   ·rw[if_pos h1,T.kN,if_neg h0,if_pos h1,T.kN,if_neg h0,if_pos h1];exact hl _ x
   ·rw[if_neg h1,T.kN,if_neg h0,if_neg h1,T.kN,if_neg h0,if_neg h1];exact hr _ x
theorem T.Da(d e:α):∀k i,(T.full d k).get e i=d\/(T.full d k).get e i=e
 |0,_=> .inr rfl
 |k+1,i=>by
  show(T.node (T.full d k) d (T.full d k)).get e i=d\/(T.node (T.full d k) d (T.full d k)).get e i=e;rw[T.kN];split
  ·grind
  ·split
   ·exact T.Da d e k _
   ·exact T.Da d e k _
def dP(l:List α):Nat->Option α:=
 List.rec (motive:=fun _=>Nat->Option α) (fun _=>none) (fun a _ ih n=>Nat.rec (some a) (fun m _=>ih m) n) l
theorem fK(l:List α):∀n,dP l n=l[n]? :=by
 induction l with
 |nil=>grind [dP]
 |cons a l ih=>
  intro n;cases n with
  |zero=>rfl
  |succ n=>exact(ih n).trans a0C
def Sv(l:List α):Nat->α->List α:=
 List.rec (motive:=fun _=>Nat->α->List α) (fun _ _=>[]) (fun a t ih n x=>Nat.rec (x::t) (fun m _=>a::ih m x) n) l
theorem aY5(l:List α):∀n x,Sv l n x=l.set n x:=by
 induction l with
 |nil=>intro n x;rfl
 |cons a l ih=>
  intro n x;cases n with
  |zero=>rfl
  |succ n=>exact congrArg (a:: ·) (ih n x)
def oK(n:Nat):List α->Option (List α):=
 Nat.rec (motive:=fun _=>List α->Option (List α)) (fun _=>some []) (fun _ ih l=>List.rec (motive:=fun _=>Option (List α)) none (fun a t _=>Option.rec (motive:=fun _=>Option (List α)) none (fun r=>some (a::r)) (ih t)) l) n
theorem Dn:∀(n:Nat) (l r:List α),oK n l=some r->r=l.take n/\n<=l.length
 |0,l,r,h=>by cases h;simp
 |n+1,[],r,h=>by cases h
 |n+1,a::t,r,h=>by
  have h':(Option.rec (motive:=fun _=>Option (List α)) none (fun r=>some (a::r)) (oK n t))=some r:=h;cases hr:oK n t with
  |none=>simp_all
  |some q=>
   rw[hr] at h';cases h';obtain⟨h1,h2⟩:=Dn n t q hr
   grind
def p9(n:Nat):List α->List α:=
 Nat.rec (motive:=fun _=>List α->List α) (fun l=>l) (fun _ ih l=>List.rec (motive:=fun _=>List α) [] (fun _ t _=>ih t) l) n
theorem Dq:∀(n:Nat) (l:List α),p9 n l=l.drop n
 |0,_=>rfl
 |n+1,[]=>rfl
 |n+1,_::t=>(Dq n t).trans a0C
def bA(l:List α):Nat:=List.rec (motive:=fun _=>Nat) 0 (fun _ _ n=>Nat.add n 1) l
theorem du(l:List α):bA l=l.length:=by
 induction l with
 |nil=>rfl
 |cons a l ih=>exact congrArg (· +1) ih
def iU(l r:List α):List α:=List.rec (motive:=fun _=>List α) r (fun a _ ih=>a::ih) l
theorem mF(l r:List α):iU l r=l++r:=by
 induction l with
 |nil=>rfl
 |cons a l ih=>exact congrArg (a:: ·) ih
def eY{γ:Type}(f:α->γ)(l:List α):List γ:=List.rec (motive:=fun _=>List γ) [] (fun a _ ih=>f a::ih) l
theorem pj{γ:Type}(f:α->γ)(l:List α):eY f l=l.map f:=by
 induction l with
 |nil=>rfl
 |cons a l ih=>exact congrArg (f a:: ·) ih
def fq(f:α->Bool)(l:List α):Bool:=List.rec (motive:=fun _=>Bool) true (fun a _ ih=>bs (f a) ih false) l
theorem pn(f:α->Bool)(l:List α):fq f l=true->∀a∈l,f a=true:=by
 induction l with
 |nil=>grind
 |cons b l ih=>
  intro h a ha;have h':bs (f b) (fq f l) false=true:=h;cases hb:f b with
  |false=>rw[hb] at h';cases h'
  |true=>
   rw[hb] at h';cases ha with
   |head=>exact hb
   |tail _ ha=>exact ih h' a ha
end
structure Loc where
 b:Nat
 d:Nat
 es:Nat
 sz:Nat
inductive D where
 |int (k:xO) (n:Int)
 |bool (b:Bool)
 |str (s:a0h)
 |pC
 |B0
 |BZ
 |BY
 |sl (rows:List (List D))
 |ptr (row:List D) (o:Nat)
 |agg (cs:List D)
 |zZ (cs:List D)
 |func (f:FuncId) (p q:List D)
abbrev a0w:=Option D
abbrev a0j:=Nat->Option D
abbrev a0d:=List D
abbrev a0b:=List (List D)
abbrev a0a:=Nat->List D->Option (List D)
def D.cell:D->Bool
 | .agg _=>false
 | .zZ _=>false
 |_=>true
inductive Rd (z:a0n):D->xM->Prop where
 |int (k:xO) (n:Int):Rd z (.int k n) (.int k n)
 |bool (b:Bool):Rd z (.bool b) (.bool b)
 |str (l:a0h):Rd z (.str l) (.string ⟨⟨l⟩⟩)
 |pC:Rd z .pC (.pointer none)
 |B0:Rd z .B0 .nilFunc
 |BZ:Rd z .BZ .nilIface
 |BY:Rd z .BY (.map none)
 |rj:Rd z (.sl []) (.slice none 0 0)
 |nO (a:Addr) (c:Nat):Rd z (.sl []) (.slice (some a) 0 c)
 |sl (rows:a0b) (es b o c:Nat) (cells:a0x) (hz:z b=some cells) (bq:rows≠[]) (dS:∀row∈rows,row.length=es) (hc:rows.length<=c) (hs:o+c*es<=cells.size)
  (h:∀(i:Nat) (row:a0d) (j:Nat) (d:D) (v:xM),rows[i]? =some row->row[j]? =some d->cells[o+(i*es+j)]? =some v->Rd z d v):Rd z (.sl rows) (.slice (some ⟨b,o,none⟩) rows.length c)
 |ptr (row:a0d) (o b o0:Nat) (cells:a0x) (hz:z b=some cells) (hs:o0+row.length<=cells.size)
  (h:∀(j:Nat) (d:D) (v:xM),row[j]? =some d->cells[o0+j]? =some v->Rd z d v):Rd z (.ptr row o) (.pointer (some ⟨b,o0+o,none⟩))
 |agg (ds:a0d) (vs:a0e) (hl:ds.length=vs.length) (h:∀(i:Nat) (d:D) (v:xM),ds[i]? =some d->vs[i]? =some v->Rd z d v):Rd z (.agg ds) (.agg ⟨vs⟩)
 |zZ (ds:a0d) (vs:a0e) (hl:ds.length=vs.length) (h:∀(i:Nat) (d:D) (v:xM),ds[i]? =some d->vs[i]? =some v->Rd z d v):Rd z (.zZ ds) (.tuple ⟨vs⟩)
 |func (f:FuncId) (p q:a0d) (p' q':a0e) (hp:p.length=p'.length) (hq:q.length=q'.length) (h1:∀(i:Nat) (d:D) (v:xM),p[i]? =some d->p'[i]? =some v->Rd z d v)
  (h2:∀(i:Nat) (d:D) (v:xM),q[i]? =some d->q'[i]? =some v->Rd z d v):Rd z (.func f p q) (.func (.func f) ⟨p'⟩ ⟨q'⟩)
theorem Rd.mono(hz:∀b c,z b=some c->z' b=some c){d:D}{v:xM}(h:Rd z d v):Rd z' d v:=by
 induction h with
 |int k n=>exact .int k n
 |bool b=>exact .bool b
 |str l=>exact .str l
 |pC=>exact .pC
 |B0=>exact .B0
 |BZ=>exact .BZ
 |BY=>exact .BY
 |rj=>exact .rj
 |nO a c=>exact .nO a c
 |sl rows es b o c cells h1 bq dS hc hs _ ih=>exact .sl rows es b o c cells (hz _ _ h1) bq dS hc hs ih
 |ptr row o b o0 cells h1 hs _ ih=>exact .ptr row o b o0 cells (hz _ _ h1) hs ih
 |agg ds vs hl _ ih=>exact .agg ds vs hl ih
 |zZ ds vs hl _ ih=>exact .zZ ds vs hl ih
 |func f p q p' q' hp hq _ _ i1 i2=>exact .func f p q p' q' hp hq i1 i2
inductive NK where
 |bin (op:BinOp) (c:Nat)
 |vI (ks:a0u) (neg:Bool)
 |un (op:UnOp)
 |mv (k:xO)
 |F2
 |H4
 |uT
 |EN
 |HT
 |qk (es:Nat)
 |uU (es:Nat)
 |tI (off:Nat)
 |ld
 |xW (n:Nat)
 |Hs
 |own (op:Nat)
 |call (f:FuncId)
 |mj (s:Nat)
 |cP (es n:Nat)
 |Ik (o:Nat)
 |app (es bys:Nat)
 |jf
 |qK (off n:Nat) (row:Bool)
 |vk (es off n:Nat) (row:Bool)
 |ky (off:Nat)
 |n5 (es bys:Nat)
 |strOf
 |mx
 |Ea
 |Ef
 |mn
 |F4 (n:Nat)
 |uB (ks:a0u)
 |DF (ks:a0u)
 |AU (ks:a0u)
 |vY
 |HU
 |DG (ks:a0u)
 |DC (ks:a0u)
 |DE (ks:a0u)
 |DH
 |B1 (neg:Bool)
 |tj (f i:Nat)
structure Node where
 k:NK
 args:a0e
 res:xM
structure GP where
 n:Nat
 Q:(a0j)->Node->Prop
 L:World->Prop
instance:Coe GP Nat:=⟨GP.n⟩
structure XZ where
 p:Nat->Prop
 z0:a0n
instance:CoeFun XZ (fun _=>Nat->Prop):=⟨XZ.p⟩
structure HY where
 own:Nat
 cs:a0x
 ty:xN
structure af where
 f:Nat->Option Loc
 z:a0n
 d:a0j
 x:XZ
 o:Nat->Option xM
 y:Nat->Option HY:=fun _=>none
instance:CoeFun af (fun _=>Nat->Option Loc):=⟨af.f⟩
def J:xM:= .chan (some 0)
def tq:Nat:=4294967291
def aZ(d:a0j)(v:xM):a0w:=
 match v with
 | .chan (some (c+1))=>(d c).bind fun x=>if x.cell then some x else none
 | .int k n=>some (.int k n)
 | .bool b=>some (.bool b)
 | .string ⟨⟨l⟩⟩=>some (.str l)
 | .pointer none=>some .pC
 | .slice none 0 0=>some (.sl [])
 | .nilFunc=>some .B0
 | .nilIface=>some .BZ
 | .map none=>some .BY
 | .func (.func f) ⟨[]⟩ ⟨[]⟩=>some (.func f [] [])
 |_=>none
inductive aj (β:af):xM->xM->Prop where
 |jW (v:xM):aj β J v
 |sym (c:Nat) (d:D) (v:xM) (h:β.d c=some d) (hc:d.cell=true) (hr:Rd β.z d v):aj β (.chan (some (c+1))) v
 |own (B c:Nat) (rows:a0b) (a:Option Addr) (cap:Nat) (h:β.o B=some (.slice a rows.length cap)) (ha:(a=none/\rows=[])\/∃l,β B=some l/\a=some ⟨l.b,l.d,none⟩) (hd:β.d c=some (.sl rows)):aj β (.iface B (.chan (some (c+1)))) (.slice a rows.length cap)
 |qS (B es off m:Nat) (l:Loc) (iv:xM) (k:xO) (h:β B=some l) (hi:aZ β.d iv=some (.int k (m:Nat))):
  aj β (.iface B (.agg ⟨[iv,.int .i64 (es:Nat),.int .i64 (off:Nat)]⟩)) (.pointer (some ⟨l.b,l.d+(m*es+off),none⟩))
 |raw (B n cap:Nat) (l:Loc) (h:β B=some l) (hn:n<=cap) (hs:β.o B=some (.slice (some ⟨l.b,l.d,none⟩) 0 cap)):aj β (.iface B (.tuple ⟨[]⟩)) (.slice (some ⟨l.b,l.d,none⟩) n cap)
 |part (B off n m:Nat) (l:Loc) (iv:xM) (k:xO) (h:β B=some l) (hi:aZ β.d iv=some (.int k (m:Nat))) (hm:m<=n):
  aj β (.iface B (.tuple ⟨[iv,.int .i64 (off:Nat),.int .i64 (n:Nat)]⟩)) (.slice (some ⟨l.b,l.d+off+m,none⟩) (n - m) (n - m))
 |bool (b:Bool):aj β (.bool b) (.bool b)
 |int (k:xO) (n:Int):aj β (.int k n) (.int k n)
 |string (s:ByteArray):aj β (.string s) (.string s)
 |qf:aj β (.pointer none) (.pointer none)
 |ptr (B o:Nat) (l:Loc) (h:β B=some l):aj β (.pointer (some ⟨B,o,none⟩)) (.pointer (some ⟨l.b,l.d+o,none⟩))
 |rP:aj β (.slice none 0 0) (.slice none 0 0)
 |slice (B o n c c':Nat) (l:Loc) (h:β B=some l) (hn:n<=c) (hc:c<=c') (he:l.d+o+c'*l.es<=l.sz):
  aj β (.slice (some ⟨B,o,none⟩) n c) (.slice (some ⟨l.b,l.d+o,none⟩) n c')
 |empty (o:Nat) (a':Addr) (c':Nat):aj β (.slice (some ⟨tq,o,none⟩) 0 0) (.slice (some a') 0 c')
 |B3:aj β (.map none) (.map none)
 |map (B:Nat) (l:Loc) (h:β B=some l):aj β (.map (some B)) (.map (some l.b))
 |nilFunc:aj β .nilFunc .nilFunc
 |nilIface:aj β .nilIface .nilIface
 |func (f:FuncId) (p p' q q':a0e) (hp:p.length=p'.length) (hq:q.length=q'.length)
  (h1:∀(i:Nat) (v v':xM),p[i]? =some v->p'[i]? =some v'->aj β v v') (h2:∀(i:Nat) (v v':xM),q[i]? =some v->q'[i]? =some v'->aj β v v'):
  aj β (.func (.func f) ⟨p⟩ ⟨q⟩) (.func (.func f) ⟨p'⟩ ⟨q'⟩)
 |yield (B:Nat) (l:Loc) (h:β B=some l):aj β (.func (.yield B) ⟨[]⟩ ⟨[]⟩) (.func (.yield l.b) ⟨[]⟩ ⟨[]⟩)
 |agg (p p':a0e) (hp:p.length=p'.length) (h1:∀(i:Nat) (v v':xM),p[i]? =some v->p'[i]? =some v'->aj β v v'):aj β (.agg ⟨p⟩) (.agg ⟨p'⟩)
 |tuple (p p':a0e) (hp:p.length=p'.length) (h1:∀(i:Nat) (v v':xM),p[i]? =some v->p'[i]? =some v'->aj β v v'):aj β (.tuple ⟨p⟩) (.tuple ⟨p'⟩)
def aX(β:af)(l l':a0e):Prop:=l.length=l'.length/\∀(i:Nat) (v v':xM),l[i]? =some v->l'[i]? =some v'->aj β v v'
structure af.le (β β':af):Prop where
 f:∀B l,β B=some l->β' B=some l
 z:∀b c,β.z b=some c->β'.z b=some c
 o:∀B v,β.o B=some v->β'.o B=some v
 d:β'.d=β.d
 x:β'.x=β.x
theorem af.le_refl(β:af):β.le β:=⟨fun _ _ h=>h,fun _ _ h=>h,fun _ _ h=>h,rfl,rfl⟩
theorem af.le_trans{a b c:af}(h:a.le b)(k:b.le c):a.le c:=⟨fun B l e=>k.f B l (h.f B l e),fun B l e=>k.z B l (h.z B l e),fun B l e=>k.o B l (h.o B l e),k.d.trans h.d,k.x.trans h.x⟩
theorem aj.mono{β β':af}(hb:β.le β'){v:xM}(h:aj β v v'):aj β' v v':=by
 induction h with
 |jW v=>exact .jW v
 |bool b=>exact .bool b
 |int k n=>exact .int k n
 |string s=>exact .string s
 |qf=>exact .qf
 |sym c d v h hc hr=>exact .sym c d v (by rw[hb.d];exact h) hc (hr.mono hb.z)
 |own B c rows a cap h ha hd=>exact .own B c rows a cap (hb.o _ _ h) (ha.imp id fun⟨l,x,y⟩=>⟨l,hb.f _ _ x,y⟩) (by rw[hb.d];exact hd)
 |qS B es off m l iv k h hi=>exact .qS B es off m l iv k (hb.f _ _ h) (by rw[hb.d];exact hi)
 |raw B n cap l h hn hs=>exact .raw B n cap l (hb.f _ _ h) hn (hb.o _ _ hs)
 |part B off n m l iv k h hi hm=>exact .part B off n m l iv k (hb.f _ _ h) (by rw[hb.d];exact hi) hm
 |ptr B o l h=>exact .ptr B o l (hb.f _ _ h)
 |rP=>exact .rP
 |slice B o n c c' l h hn hc he=>exact .slice B o n c c' l (hb.f _ _ h) hn hc he
 |empty o a' c'=>exact .empty o a' c'
 |B3=>exact .B3
 |map B l h=>exact .map B l (hb.f _ _ h)
 |nilFunc=>exact .nilFunc
 |nilIface=>exact .nilIface
 |func f p p' q q' hp hq _ _ i1 i2=>exact .func f p p' q q' hp hq i1 i2
 |yield B l h=>exact .yield B l (hb.f _ _ h)
 |agg p p' hp _ i1=>exact .agg p p' hp i1
 |tuple p p' hp _ i1=>exact .tuple p p' hp i1
theorem aX.mono{β β':af}(hb:β.le β')(h:aX β l l'):aX β' l l':=⟨h.1,fun i v v' a b=>(h.2 i v v' a b).mono hb⟩
theorem aX.nil(β:af):aX β [] []:=⟨rfl,fun i v v' h=>by simp at h⟩
theorem aX.cons{β:af}{v:xM}(h:aj β v v')(hl:aX β l l'):aX β (v::l) (v'::l'):=by
 refine⟨by simp[hl.1],fun i u u' a b=> ?_⟩;cases i with
 |zero=>grind
 |succ i=>simp at a b;exact hl.2 i u u' a b
theorem aX.pc{β:af}{v:xM}{r:a0e}(h:aX β (v::l) r):∃v' l',r=v'::l'/\aj β v v'/\aX β l l':=by
 cases r with
 |nil=>exact absurd h.1 a0C
 |cons v' l'=>exact⟨v',l',rfl,h.2 0 v v' rfl rfl,by have:=h.1;grind,fun i a b ha hb=>h.2 (i+1) a b a0D a0D⟩
theorem aX.qD{β:af}{r:a0e}(h:aX β [] r):r=[]:=by
 cases r with
 |nil=>rfl
 |cons _ _=>exact absurd h.1 a0C
theorem aX.append{β:af}{a a' b b':a0e}(h:aX β a a')(k:aX β b b'):aX β (a++b) (a'++b'):=by
 induction a generalizing a' with
 |nil=>rw[h.qD];exact k
 |cons v a ih=>
  obtain⟨v',l',rfl,h1,h2⟩:=h.pc
  grind [cons]
theorem aX.get{β:af}{l l':a0e}(h:aX β l l'){i:Nat}{v:xM}(hv:l[i]? =some v):∃v',l'[i]? =some v'/\aj β v v':=by
 have hi:i<l'.length:=h.1▸(xe.1 hv).1;exact⟨l'[i],by simp[hi],h.2 i v _ hv (by simp[hi])⟩
theorem aX.take{β:af}(h:aX β l l')(n:Nat):aX β (l.take n) (l'.take n):=by
 refine⟨by simp[h.1],fun i v v' a b=> ?_⟩;rw[List.getElem?_take] at a b;split at a
 ·rw[if_pos (by assumption)] at b;exact h.2 i v v' a b
 ·cases a
theorem aX.drop{β:af}(h:aX β l l')(n:Nat):aX β (l.drop n) (l'.drop n):=by
 refine⟨by simp[h.1],fun i v v' a b=> ?_⟩;rw[List.getElem?_drop] at a b;exact h.2 _ v v' a b
theorem aX.set{β:af}(h:aX β l l')(n:Nat){x:xM}(hx:aj β x x'):aX β (l.set n x) (l'.set n x'):=by
 refine⟨by simp[h.1],fun i v v' a b=> ?_⟩;rw[List.getElem?_set] at a b;by_cases hn:n=i
 ·grind
 ·rw[if_neg hn] at a b;exact h.2 i v v' a b
theorem aj.YK{β:af}{f:FuncId}{q q':a0e}(h1:aX β p p')(h2:aX β q q'):aj β (.func (.func f) ⟨p⟩ ⟨q⟩) (.func (.func f) ⟨p'⟩ ⟨q'⟩):= .func f p p' q q' h1.1 h2.1 h1.2 h2.2
theorem aj.nu{β:af}(h1:aX β p p'):aj β (.agg ⟨p⟩) (.agg ⟨p'⟩):= .agg p p' h1.1 h1.2
theorem aj.sK{β:af}(h1:aX β p p'):aj β (.tuple ⟨p⟩) (.tuple ⟨p'⟩):= .tuple p p' h1.1 h1.2
theorem aj.undef{β:af}:aj β Go.undef Go.undef:=aj.sK (aX.nil β)
def aI(g:xM->a0w):List xM->Option (List D)
 |[]=>some []
 |v::l=>match g v,aI g l with|some x,some r=>some (x::r)|_,_=>none
def bR(d:a0j)(v:xM):a0w:=match v with| .agg ⟨l⟩=>(aI (aZ d) l).map .agg|v=>aZ d v
def den(d:a0j)(v:xM):a0w:=match v with| .tuple ⟨l⟩=>(aI (bR d) l).map .zZ|v=>bR d v
def eH(d:a0j)(v:xM):a0w:=match v with| .slice _ _ _=>none|v=>aZ d v
def iA(d:a0j)(v:xM):a0w:=match v with| .agg ⟨l⟩=>(aI (eH d) l).map .agg|v=>eH d v
def res(d:a0j)(v:xM):a0w:=match v with| .tuple ⟨l⟩=>(aI (iA d) l).map .zZ|v=>iA d v
theorem iu{g:xM->a0w}{x:xM}{ds:a0d}(h:aI g (x::l)=some ds):∃d r,ds=d::r/\g x=some d/\aI g l=some r:=by
 unfold aI at h
 grind
theorem XF{g:xM->a0w}{ds:a0d}(h:aI g []=some ds):ds=[]:=by cases h;rfl
theorem kP{g:xM->a0w}{x:xM}{ds:a0d}(h:aI g [x]=some ds):∃d,ds=[d]/\g x=some d:=by
 obtain⟨d,r,rfl,h1,h2⟩:=iu h;rw[XF h2];grind
theorem je{g:xM->a0w}{x y:xM}{ds:a0d}(h:aI g [x,y]=some ds):∃d e,ds=[d,e]/\g x=some d/\g y=some e:=by
 obtain⟨d,r,rfl,h1,h2⟩:=iu h;obtain⟨e,rfl,h3⟩:=kP h2
 grind
theorem sJ{g g':xM->a0w}(hg:∀v d,g v=some d->g' v=some d):∀{l:a0e} {ds:a0d},aI g l=some ds->aI g' l=some ds
 |[],_,h=>h
 |v::l,ds,h=>by
  obtain⟨d,r,rfl,h1,h2⟩:=iu h;unfold aI;rw[hg _ _ h1,sJ hg h2]
open Go.RowKit
inductive Vt where
 |ready
 |busy
 |done (j:Code)
inductive AO where
 |cells (cs:a0e)
 |loop (st:Vt) (fr:T xM) (n:Nat) (ps:a0g) (a b:Code)
 |yo
 |own (c:xM)
 |maps (c:xM)
 |jV (ks:a0u) (c:xM)
 |gM (ks:a0u) (c:xM) (tk:Option (Nat×List xM))
 |r9 (ks:a0u) (c:xM)
 |qa (B:Nat) (c l:xM) (aB:a0e)
 |Bq (B:Nat) (c l:xM) (fin:Bool)
def jS:Nat:=4294967295
structure aE where
 obj:AO
 es:Nat
 exact:Bool
 ro:Bool
 ty:xN
abbrev a0l:=List (Option aE)
def aE.still(b:aE):Bool:=match b.obj with| .cells _=>b.ro| .own _=>b.ro|_=>false
structure AW where
 heap:T (Option aE)
 next:Nat
 tape:List Node
abbrev a0q:=Option (xM×AW)
def AW.get(A:AW)(B:Nat):Option aE:=A.heap.get none B
def AW.put(A:AW)(B:Nat)(o:Option aE):AW:=⟨A.heap.set B o,A.next,A.tape⟩
def AW.add(A:AW)(blk:aE):AW:=⟨A.heap.set A.next (some blk),Nat.add A.next 1,A.tape⟩
def Fb(β:af)(e e':MapEntry):Prop:=e.born=e'.born/\aj β e.key e'.key/\aj β e.val e'.val
def wZ(z:a0n)(rows:a0b)(es:a0k):Prop:=
 rows.length=es.length/\∀(i:Nat) (row:a0d) (e:MapEntry),rows[i]? =some row->es[i]? =some e->∃s d,row=[.str s,d]/\e.key= .string ⟨⟨s⟩⟩/\Rd z d e.val
theorem wZ.mono(hz:∀b c,z b=some c->z' b=some c){rows:a0b}{es:a0k}(h:wZ z rows es):wZ z' rows es:=
 ⟨h.1,fun i row e a b=>(h.2 i row e a b).imp fun s ⟨d,x,y,w⟩=>⟨d,x,y,w.mono hz⟩⟩
def fC:List xO->List D->Option (List xM)
 |[],[]=>some []
 |k::ks,.int j n::ds=>if j=k then(fC ks ds).map (.int j n:: ·) else none
 |_,_=>none
def pG(z:a0n)(ks:a0u)(rows:a0b)(es:a0k):Prop:=
 rows.length=es.length/\∀(i:Nat) (row:a0d) (e:MapEntry),rows[i]? =some row->es[i]? =some e->∃ds vs d,row=[.agg ds,d]/\fC ks ds=some vs/\e.key= .agg ⟨vs⟩/\d.cell=true/\Rd z d e.val
theorem pG.mono(hz:∀b c,z b=some c->z' b=some c){rows:a0b}{es:a0k}(h:pG z ks rows es):pG z' ks rows es:=
 ⟨h.1,fun i row e a b=>by
  obtain⟨ds,vs,d,x,y,u,c,w⟩:=h.2 i row e a b
  grind [w.mono]⟩
abbrev fc:D:= .pC
def mc(β:af)(b es:Nat)(ty:xN)(rs:a0b)(v:xM):Prop:=
 (rs=[]/\v= .slice none 0 0)\/∃c off cap h,v= .slice (some ⟨c,off,none⟩) rs.length cap/\β.y c=some h/\h.own=b/\h.ty=ty/\rs.length<=cap/\off+cap*es<=h.cs.size/\(∀row∈rs,row.length=es)/\
  ∀(i:Nat) (row:a0d) (j:Nat) (d:D),rs[i]? =some row->row[j]? =some d->∃v,h.cs[off+(i*es+j)]? =some v/\Rd β.z d v
theorem mc.mono{β β':af}(hz:∀b c,β.z b=some c->β'.z b=some c)(hy:∀c h,β.y c=some h->h.own=b->β'.y c=some h){rs:a0b}{v:xM}(h:mc β b es ty rs v):mc β' b es ty rs v:=
 h.imp id fun⟨c,off,cap,h,e1,e2,e3,e4,e5,e6,e7,e8⟩=>⟨c,off,cap,h,e1,hy c h e2 e3,e3,e4,e5,e6,e7,fun i row j d x y=>(e8 i row j d x y).imp fun v ⟨p,q⟩=>⟨p,q.mono hz⟩⟩
def uM(v:xM):a0r:=match v with| .slice (some a) _ _=>some a.block|_=>none
structure mb (β:af) (b es:Nat) (ty:xN) (ks:a0u) (tk:Option (Nat×List D)) (rows:a0b) (kf:a0k):Prop where
 len:rows.length=kf.length
 row:∀(i:Nat) (row:a0d) (e:MapEntry),rows[i]? =some row->kf[i]? =some e->∃ds vs d,row=[.agg ds,d]/\fC ks ds=some vs/\e.key= .agg ⟨vs⟩/\
  ((d=fc/\∀B,tk=some (B,ds)->β.o B=some e.val)\/∃rs,d= .sl rs/\mc β b es ty rs e.val)
 inj:∀(i j:Nat) (r r':a0d) (e e':MapEntry) (c:Nat),rows[i]? =some r->rows[j]? =some r'->r[1]?≠some fc->r'[1]?≠some fc->kf[i]? =some e->kf[j]? =some e'->uM e.val=some c->uM e'.val=some c->i=j
 key:∀(i j:Nat) (r r':a0d),rows[i]? =some r->rows[j]? =some r'->r[0]? =r'[0]?->i=j
theorem mb.mono{β β':af}(hz:∀b c,β.z b=some c->β'.z b=some c)(ho:∀B v,β.o B=some v->β'.o B=some v)(hy:∀c h,β.y c=some h->h.own=b->β'.y c=some h){tk:Option (Nat×List D)}{rows:a0b}{kf:a0k}(h:mb β b es ty ks tk rows kf):mb β' b es ty ks tk rows kf:=
 ⟨h.len,fun i row e a1 a2=>by
  obtain⟨ds,vs,d,x,y,u,w⟩:=h.row i row e a1 a2;exact⟨ds,vs,d,x,y,u,w.imp (fun⟨p,q⟩=>⟨p,fun B e=>ho B _ (q B e)⟩) fun⟨rs,p,q⟩=>⟨rs,p,q.mono hz hy⟩⟩,h.inj,h.key⟩
theorem mb.of_eq{β β':af}(hz:β'.z=β.z)(hyy:β'.y=β.y){rows:a0b}{kf:a0k}(h:mb β b es ty ks none rows kf):mb β' b es ty ks none rows kf:=
 ⟨h.len,fun i row e a1 a2=>by
  obtain⟨ds,vs,d,x,y,u,w⟩:=h.row i row e a1 a2;exact⟨ds,vs,d,x,y,u,w.imp (fun⟨p,q⟩=>⟨p,fun B e=>by cases e⟩) fun⟨rs,p,q⟩=>⟨rs,p,q.mono (fun b c e=>a0D) (fun c hh e _=>a0D)⟩⟩,h.inj,h.key⟩
def Fh(δ:a0j)(tk:Option (Nat×List xM))(td:Option (Nat×List D)):Prop:=match tk,td with
 |none,none=>True
 |some (B,k),some (B',k')=>B=B'/\aI (aZ δ) k=some k'
 |_,_=>False
def bL1(z:a0n)(ks:a0u)(rows:a0b)(es:a0k):Prop:=
 ∃iy,List.Perm rows iy/\pG z ks iy es/\∀(i j:Nat) (r r':a0d),iy[i]? =some r->iy[j]? =some r'->r[0]? =r'[0]?->i=j
def p8(seen:a0g)(rows:a0b):a0b:=(rows.zipIdx.filter fun p=> !seen.contains p.2).map (·.1)
def gb(β:af)(l:Loc)(blk:aE)(o:Option Obj):Prop:=
 match blk.obj with
 | .cells cs=>∃aB e fz,o=some (.cells aB e fz)/\aB.size=l.sz/\l.d+cs.length<=l.sz/\(∀(i:Nat) (v:xM),cs[i]? =some v->∃v',aB[l.d+i]? =some v'/\aj β v v')/\
  (blk.ro=false->fz=(0,0))/\(blk.exact=true->l.d=0/\l.d+cs.length=l.sz)/\l.es=blk.es/\(blk.ty≠jS->e=blk.ty)
 | .loop st fr n ps a b=>∃r,o=some (.loop r)/\r.state=(match st with| .ready=> .ready| .busy=> .busy| .done _=> .done)/\r.pending=(match st with| .done j=>some j|_=>none)/\r.params=⟨ps⟩/\r.assign=a/\r.body=b/\r.tmps.size=n/\∀t,aj β (fr.get J t) (r.tmps.getD t undef)
 | .yo=>o=some (.deferred (some []))
 | .own c=>∃aB rows,o=some (.cells aB blk.ty (0,0))/\aB.size=l.sz/\aZ β.d c=some (.sl rows)/\l.es=blk.es/\(∀row∈rows,row.length=l.es)/\l.d+rows.length*l.es<=l.sz/\
  ∀(i:Nat) (row:a0d) (j:Nat) (d:D),rows[i]? =some row->row[j]? =some d->∃v,aB[l.d+(i*l.es+j)]? =some v/\Rd β.z d v
 | .maps c=>∃es' ck rows,o=some (.map ⟨es'⟩ ck)/\aZ β.d c=some (.sl rows)/\wZ β.z rows es'
 | .jV ks c=>∃es' ck rows,o=some (.map ⟨es'⟩ ck)/\aZ β.d c=some (.sl rows)/\pG β.z ks rows es'/\ck=es'.length/\∀(i:Nat) (e:MapEntry),es'[i]? =some e->e.born=i
 | .gM ks c tk=>∃es' ck rows td,o=some (.map ⟨es'⟩ ck)/\aZ β.d c=some (.sl rows)/\Fh β.d tk td/\mb β l.b blk.es blk.ty ks td rows es'/\ck=es'.length/\∀(i:Nat) (e:MapEntry),es'[i]? =some e->e.born=i
 | .r9 ks c=>∃es' ck rows,o=some (.map ⟨es'⟩ ck)/\aZ β.d c=some (.sl rows)/\bL1 β.z ks rows es'
 | .qa B c lc aB=>l.d=0/\∃lb rows left seen,o=some (.mapIter (some lb.b) rows.length ⟨seen⟩ rows.length)/\β B=some lb/\aZ β.d c=some (.sl rows)/\aZ β.d lc=some (.sl left)/\left=p8 seen rows/\
  (aB=[]\/∃Ho i row,seen=Ho++[i]/\rows[i]? =some row/\aI (iA β.d) aB=some row)
 | .Bq B c lc fin=>l.d=0/\∃lb rows left seen,β B=some lb/\aZ β.d c=some (.sl rows)/\aZ β.d lc=some (.sl left)/\left=p8 seen rows/\
  ((fin=true/\left=[]/\o=some (.mapIter (some lb.b) rows.length ⟨seen⟩ rows.length))\/(fin=false/\∃i j row,rows[j]? =some row/\left[i]? =some row/\p8 (seen++[j]) rows=left.eraseIdx i/\o=some (.mapIter (some lb.b) rows.length ⟨seen++[j]⟩ rows.length)))
def jI(β:af)(B:Nat)(blk:aE):Prop:=
 match blk.obj with
 | .own c=>∃rows,aZ β.d c=some (.sl rows)/\((rows=[]/\β.o B=some (.slice none 0 0))\/∃l cap,β B=some l/\β.o B=some (.slice (some ⟨l.b,l.d,none⟩) rows.length cap)/\rows.length<=cap/\l.d+cap*l.es<=l.sz/\l.es=blk.es)
 |_=>True
theorem Fh.mono{δ lM:a0j}(h:∀v d,aZ δ v=some d->aZ lM v=some d){tk:Option (Nat×List xM)}{td:Option (Nat×List D)}(hk:Fh δ tk td):Fh lM tk td:=by
 unfold Fh at*;split at hk
 ·trivial
 ·exact⟨hk.1,sJ h hk.2⟩
 ·exact hk.elim
theorem gb.mono{β β':af}(hb:β.le β'){l:Loc}{blk:aE}{o:Option Obj}(h:gb β l blk o)(hy:∀c h,β.y c=some h->h.own=l.b->β'.y c=some h:=by exact fun _ _ h _=>h):gb β' l blk o:=by
 unfold gb at*;cases hk:blk.obj with
 |cells cs=>
  simp only [hk] at h⊢;obtain⟨aB,e,fz,h1,h2,h3,h4,h5,h6,h7⟩:=h;exact⟨aB,e,fz,h1,h2,h3,fun i v hv=>(h4 i v hv).imp fun v' ⟨a,b⟩=>⟨a,b.mono hb⟩,h5,h6,h7⟩
 |loop bz fr n ps a b=>
  simp only [hk] at h⊢;obtain⟨r,h1,h2,h3,h4,h5,h6,h7,h8⟩:=h;exact⟨r,h1,h2,h3,h4,h5,h6,h7,fun t=>(h8 t).mono hb⟩
 |yo=>
  grind
 |own c=>
  simp only [hk] at h⊢;obtain⟨aB,rows,h1,h2,h3,h4,h5,h6,h7⟩:=h;exact⟨aB,rows,h1,h2,by rw[hb.d];exact h3,h4,h5,h6,fun i row j d a b=>(h7 i row j d a b).imp fun v ⟨x,y⟩=>⟨x,y.mono hb.z⟩⟩
 |maps c=>
  simp only [hk] at h⊢;obtain⟨es',ck,rows,h1,h2,h3⟩:=h
  grind [hb.d,h3.mono,hb.z]
 |jV ks c=>
  simp only [hk] at h⊢;obtain⟨es',ck,rows,h1,h2,h3,h4⟩:=h
  grind [hb.d,h3.mono,hb.z]
 |gM ks c tk=>
  simp only [hk] at h⊢;obtain⟨es',ck,rows,td,h1,h2,h3,h4,h5⟩:=h
  grind [hb.d,h4.mono,hb.z,hb.o]
 |r9 ks c=>
  simp only [hk] at h⊢;obtain⟨es',ck,rows,h1,h2,iy,h3,h4,h5⟩:=h;exact⟨es',ck,rows,h1,by rw[hb.d];exact h2,iy,h3,h4.mono hb.z,h5⟩
 |qa B c lc aB=>
  simp only [hk] at h⊢;obtain⟨h0,lb,rows,left,seen,h1,h2,h3⟩:=h;exact⟨h0,lb,rows,left,seen,h1,hb.f _ _ h2,by rw[hb.d];exact h3⟩
 |Bq B c lc fin=>
  simp only [hk] at h⊢;obtain⟨h0,lb,rows,left,seen,h1,h2,h3⟩:=h;exact⟨h0,lb,rows,left,seen,hb.f _ _ h1,by rw[hb.d];exact h2,by rw[hb.d];exact h3⟩
theorem jI.mono{β β':af}(hb:β.le β'){blk:aE}(h:jI β B blk):jI β' B blk:=by
 grind [jI,hb.d,hb.o,hb.f]
structure n4 (X:Nat->Prop) (w w':World):Prop where
 os:w'.os=w.os
 tape:w'.tape=w.tape
 output:w'.output=w.output
 size:w.heap.size<=w'.heap.size
 block:∀k,k<w.heap.size-> ¬X k->w'.heap[k]? =w.heap[k]?
theorem n4.refl(X:Nat->Prop)(w:World):n4 X w w:=⟨rfl,rfl,rfl,xk _,fun _ _ _=>rfl⟩
theorem n4.trans{b c:World}(h:n4 X a b)(k:n4 X b c):n4 X a c:=
 ⟨k.os.trans h.os,k.tape.trans h.tape,k.output.trans h.output,xH h.size k.size,fun i hi hx=>(k.block i (xK hi h.size) hx).trans (h.block i hi hx)⟩
theorem n4.alloc(h:n4 X a w)(o:Obj):n4 X a (w.alloc o):=
 ⟨h.os,h.tape,h.output,by have:=h.size;simp;omega,fun k hk hx=>(Below.heap_alloc w o k (xK hk h.size)).trans (h.block k hk hx)⟩
theorem n4.grown{row:Nat}(h:n4 X a w)(hg:w.grownBy w' (some row))(hr:a.heap.size<=row\/X row):n4 X a w':=
 ⟨hg.os.trans h.os,hg.tape.trans h.tape,hg.output.trans h.output,xH h.size hg.size,fun k hk hx=>(hg.block k (xK hk h.size) (fun e=>a0D)).trans (h.block k hk hx)⟩
theorem n4.below(h:n4 X w w')(hx:∀k,¬X k):Below w.heap.size w w':=⟨h.os,h.tape,h.output,h.size,fun k hk=>h.block k hk (hx k)⟩
structure Inv (w0:World) (G:GP) (β:af) (A:AW) (w:World):Prop where
 below:n4 β.x.p w0 w
 fI:∀B l,β B=some l->B<A.next
 cW:∀B,A.next<=B->A.get B=none
 loc:∀B l,β B=some l->l.b<w.heap.size/\(B<G.n\/(w0.heap.size<=l.b\/β.x l.b))
 inj:∀B B' l l',β B=some l->β B'=some l'->l.b=l'.b->(A.get B).isSome=true->(A.get B').isSome=true->B=B'
 cont:∀B blk l,A.get B=some blk->β B=some l->gb β l blk w.heap[l.b]?
 jk:∀g,g<G.n->∃l,β g=some l/\l.b=g/\l.d=0
 cP:∀b cs,β.z b=some cs->∃e fz,w.heap[b]? =some (.cells cs e fz)
 sep:∀B l blk,G.n<=B->β B=some l->A.get B=some blk->blk.still=false->β.z l.b=none
 dJ:∀nd∈A.tape,G.Q β.d nd
 own:∀B blk,A.get B=some blk->jI β B blk
 iB:∀B v,β.o B=some v->B<A.next
 lay:G.L w0
 xg:∀b,β.x b->G.n<=b
 jP:G.n<=w0.heap.size
 zo:∀b c,β.z b=some c->β.x.z0 b=some c\/w0.heap.size<=b\/β.x b
 dR:∀b h,β.y b=some h->w.heap[b]? =some (.cells h.cs h.ty (0,0))/\β.z b=none/\(w0.heap.size<=b\/β.x b)/\∀B l,β B=some l->(A.get B).isSome=true->l.b≠b
def af.put(β:af)(B:Nat)(l:Loc):af:={β with f:=fun X=>if X=B then some l else β X}
theorem af.rV(β:af)(B:Nat)(l:Loc)(X:Nat):(β.put B l) X=if X=B then some l else β X:=rfl
structure af.grow (β β':af) (n:Nat):Prop where
 f:∀B,B<n->β' B=β B
 z:∀b c,β.z b=some c->β'.z b=some c
 o:∀B,B<n->β'.o B=β.o B
 d:β'.d=β.d
 x:β'.x=β.x
theorem af.cb(β:af)(n:Nat):β.grow β n:=⟨fun _ _=>rfl,fun _ _ h=>h,fun _ _=>rfl,rfl,rfl⟩
theorem af.iP{a b c:af}{m:Nat}(h:a.grow b n)(k:b.grow c m)(hm:n<=m):a.grow c n:=
 ⟨fun B hB=>(k.f B a0B).trans (h.f B hB),fun B l e=>k.z B l (h.z B l e),fun B hB=>(k.o B a0B).trans (h.o B hB),k.d.trans h.d,k.x.trans h.x⟩
theorem af.vT(β:af)(n:Nat)(l:Loc):β.grow (β.put n l) n:=⟨fun B hB=>by rw[af.rV,if_neg a0B],fun _ _ h=>h,fun _ _=>rfl,rfl,rfl⟩
theorem af.grow.le{β β':af}(h:β.grow β' n)(hd:∀B l,β B=some l->B<n)(ho:∀B v,β.o B=some v->B<n):β.le β':=
 ⟨fun B l e=>(h.f B (hd B l e)).trans e,h.z,fun B v e=>(h.o B (ho B v e)).trans e,h.d,h.x⟩
section
variable{G:GP}{β:af}{A:AW}
theorem AW.ni(A:AW)(blk:aE)(h:A.get A.next=none)(B:Nat):(A.add blk).get B=some blk/\B=A.next\/(A.add blk).get B=A.get B:=by
 by_cases hB:A.next=B
 ·subst hB;rcases T.ul none A.heap A.next (some blk) with e|e
  ·exact .inl ⟨e,rfl⟩
  ·exact .inr (e.1.trans h.symm)
 ·exact .inr (T.um none A.heap _ _ _ hB)
theorem AW.gk(A:AW)(B:Nat)(o:Option aE)(C:Nat):(A.put B o).get C=o/\C=B\/(A.put B o).get C=none/\C=B\/(A.put B o).get C=A.get C/\C≠B:=by
 by_cases hB:B=C
 ·subst hB;rcases T.ul none A.heap B o with e|e
  ·exact .inl ⟨e,rfl⟩
  ·exact .inr (.inl ⟨e.1,rfl⟩)
 ·exact .inr (.inr ⟨T.um none A.heap _ _ _ hB,Ne.symm hB⟩)
theorem Inv.gC(h:Inv w0 G β A w){β':af}(hg:β.grow β' A.next):β.le β':=hg.le h.fI h.iB
theorem Inv.Z5(h:Inv w0 G β A w)(hb:w.heap.size<=b):β.z b=none:=by
 cases hz:β.z b with
 |none=>rfl
 |some cs=>grind [Array.getElem?_eq_some_iff,h.cP]
theorem Inv.drew(h:Inv w0 G β A w)(n:Nat):Inv w0 G β A {w with drawn:=n}:=
 ⟨⟨h.below.os,h.below.tape,h.below.output,h.below.size,h.below.block⟩,h.fI,h.cW,h.loc,h.inj,h.cont,h.jk,h.cP,h.sep,h.dJ,h.own,h.iB,h.lay,h.xg,h.jP,h.zo,h.dR⟩
def r7(blk:aE):Prop:=∀c,blk.obj≠ .own c
theorem r7.ok{β:af}{blk:aE}(h:r7 blk):jI β B blk:=by
 unfold jI;split
 ·exact absurd (by assumption) (h _)
 ·trivial
theorem Vz{cs:a0x}{o:Obj}(h:∃e fz,w.heap[b]? =some (.cells cs e fz)):∃e fz,(w.alloc o).heap[b]? =some (.cells cs e fz):=by
 grind [Below.heap_alloc,Array.getElem?_eq_some_iff]
theorem Inv.new(h:Inv w0 G β A w)(blk:aE)(o:Obj)(l:Loc)(hl:l.b=w.heap.size)(hb:gb (β.put A.next l) l blk (some o))(hp:r7 blk:=by intro c h;cases h):
 Inv w0 G (β.put A.next l) (A.add blk) (w.alloc o)/\β.grow (β.put A.next l) A.next:=by
 have aK:β.le (β.put A.next l):=h.gC (af.vT β A.next l);have hn:A.get A.next=none:=h.cW _ (xk _);have aS:(w.alloc o).heap.size=w.heap.size+1:=a0C
 have jJ:∀B lb,β.put A.next l B=some lb->(B=A.next/\lb=l)\/(B≠A.next/\β B=some lb):=fun B lb e=>by
  rw[af.rV] at e
  grind
 have ia:∀B,B≠A.next->(A.add blk).get B=A.get B:=fun B hB=>by
  grind [absurd,A.ni]
 refine⟨⟨h.below.alloc o,fun B lb e=> ?_,fun B hB=> ?_,fun B lb e=> ?_,fun B B' lb Cv e e' eE ha lz=> ?_,fun B k lb hk e=> ?_,fun g hg=> ?_,fun b cs hz=>Vz (h.cP b cs hz),fun B lb kb hG e ha hs=> ?_,h.dJ,fun B k hk=> ?_,
  fun B v e=>Nat.lt_succ_of_lt (h.iB B v e),h.lay,h.xg,h.jP,h.zo,fun b hh hy=> ?_⟩,af.vT β A.next l⟩
 ·show B<A.next+1;rcases jJ B lb e with⟨rfl,_⟩|⟨_,e⟩
  ·omega
  ·exact Nat.lt_succ_of_lt (h.fI B lb e)
 ·have vE:A.next+1<=B:=hB
  grind [h.cW]
 ·rw[aS];rcases jJ B lb e with⟨rfl,rfl⟩|⟨_,e⟩
  ·grind [h.below.size]
  ·exact⟨Nat.lt_succ_of_lt (h.loc B lb e).1,(h.loc B lb e).2⟩
 ·rcases jJ B lb e with⟨h1,h2⟩|⟨hB,f⟩<;>rcases jJ B' Cv e' with⟨oD,FR⟩|⟨vE,f'⟩
  ·rw[h1,oD]
  ·have:=(h.loc B' Cv f').1;grind
  ·have:=(h.loc B lb f).1;grind
  grind [h.inj]
 ·rcases jJ B lb e with⟨rfl,rfl⟩|⟨hB,e⟩
  ·rcases A.ni blk hn A.next with⟨e2,_⟩|e2
   ·grind [heap_alloc_new]
   grind
  ·rw[ia B hB] at hk;rw[Below.heap_alloc w o _ (h.loc B lb e).1];exact(h.cont B k lb hk e).mono aK
 ·grind [h.jk,aK.f]
 ·rcases jJ B lb e with⟨rfl,rfl⟩|⟨hB,e⟩
  ·exact h.Z5 a0B
  ·rw[ia B hB] at ha;exact h.sep B lb kb hG e ha hs
 ·rcases A.ni blk hn B with⟨e2,_⟩|e2
  ·grind [hp.ok]
  ·rw[e2] at hk;exact(h.own B k hk).mono aK
 ·obtain⟨y1,y2,y3,y4⟩:=h.dR b hh hy;have hb:=(Array.getElem?_eq_some_iff.1 y1).1;refine⟨by grind [Below.heap_alloc],y2,y3,fun B lb e ha=> ?_⟩
  grind
theorem OH{cs:a0x}(hw:w.grownBy w' (some B))(hb:b≠B)(h:∃e fz,w.heap[b]? =some (.cells cs e fz)):∃e fz,w'.heap[b]? =some (.cells cs e fz):=by
 grind [Array.getElem?_eq_some_iff,xC,hw.block]
theorem Inv.GM(h:Inv w0 G β A w){l:Loc}(hB:β B=some l)(hg:(A.get B).isSome=true):β.y l.b=none:=by
 cases hy:β.y l.b with
 |none=>rfl
 |some hh=>exact absurd rfl ((h.dR _ hh hy).2.2.2 B l hB hg)
theorem WN(h:Inv w0 G β A w){l:Loc}(hw:w.grownBy w' (some l.b))(hB:β B=some l)(hg:(A.get B).isSome=true){A':AW}{hh:HY}(hy:β.y b=some hh)(lZ:∀C,(A'.get C).isSome=true->(A.get C).isSome=true):
 w'.heap[b]? =some (.cells hh.cs hh.ty (0,0))/\β.z b=none/\(w0.heap.size<=b\/β.x b)/\∀C l,β C=some l->(A'.get C).isSome=true->l.b≠b:=by
 grind [Array.getElem?_eq_some_iff,xC,h.dR,hw.block]
theorem Inv.GO(h:Inv w0 G β A w)(B:Nat)(l:Loc)(blk blk':aE)(hg:A.get B=some blk)(hB:β B=some l)(hG:G.n<=B)
 (hw:w.grownBy w' (some l.b)) (aS:w'.heap.size=w.heap.size) (hb:gb β l blk' w'.heap[l.b]?) (hp:jI β B blk') (hz:∀cs,β.z l.b=some cs->∃e fz,w'.heap[l.b]? =some (.cells cs e fz)) (ko:blk'.still=false->β.z l.b=none):Inv w0 G β (A.put B (some blk')) w':=by
 obtain⟨gg,aW⟩:=h.loc B l hB;have dQ:w0.heap.size<=l.b\/β.x l.b:=aW.resolve_left a0B;have lZ:∀C,((A.put B (some blk')).get C).isSome=true->(A.get C).isSome=true:=fun C hs=>by
  grind [A.gk]
 refine⟨h.below.grown hw dQ,h.fI,fun C hC=> ?_,fun C lc e=> ?_,fun C C' lc qn e e' eE ha lz=>h.inj C C' lc qn e e' eE (lZ C ha) (lZ C' lz),fun C k lc hk e=> ?_,h.jk,
  fun b cs e=> ?_,fun C lc kb FO e ha hs=> ?_,h.dJ,fun C k hk=> ?_,h.iB,h.lay,h.xg,h.jP,h.zo,fun b hh hy=>WN h hw hB (by rw[hg];rfl) hy lZ⟩
 ·have ND:A.next<=C:=hC
  grind [A.gk,h.fI,h.cW]
 ·rw[aS];exact h.loc C lc e
 ·rcases A.gk B (some blk') C with⟨e2,rfl⟩|⟨e2,_⟩|⟨e2,bq⟩
  ·grind
  ·grind
  ·rw[e2] at hk;have bM:lc.b≠l.b:=fun eE=>bq (h.inj C B lc l e hB eE (by rw[hk];rfl) (by rw[hg];rfl))
   rw[hw.block lc.b (h.loc C lc e).1 (fun e3=>bM (xC e3))]
   grind [h.cont]
 ·by_cases qv:b=l.b
  ·grind
  ·exact OH hw qv (h.cP b cs e)
 ·rcases A.gk B (some blk') C with⟨e2,rfl⟩|⟨e2,_⟩|⟨e2,_⟩
  ·grind
  ·grind
  grind [h.sep]
 ·rcases A.gk B (some blk') C with⟨e2,rfl⟩|⟨e2,_⟩|⟨e2,_⟩
  ·grind
  ·grind
  grind [h.own]
theorem Inv.write(h:Inv w0 G β A w)(B:Nat)(l:Loc)(blk blk':aE)(hg:A.get B=some blk)(hB:β B=some l)(hG:G.n<=B)
 (hw:w.grownBy w' (some l.b)) (aS:w'.heap.size=w.heap.size) (hb:gb β l blk' w'.heap[l.b]?) (hp:jI β B blk':=by exact trivial) (hs:blk.still=false:=by rfl):Inv w0 G β (A.put B (some blk')) w':=by
 have hz:β.z l.b=none:=h.sep B l blk hG hB hg hs
 grind [h.GO]
theorem Inv.kill(h:Inv w0 G β A w)(B:Nat):Inv w0 G β (A.put B none) w:=by
 have lZ:∀C k,(A.put B none).get C=some k->A.get C=some k:=fun C k hs=>by
  grind [A.gk]
 have Bi:∀C,((A.put B none).get C).isSome=true->(A.get C).isSome=true:=fun C hs=>by
  cases hk:(A.put B none).get C with
  |none=>grind
  |some k=>grind
 refine⟨h.below,h.fI,fun C hC=> ?_,h.loc,fun C C' lc qn e e' eE ha lz=>h.inj C C' lc qn e e' eE (Bi C ha) (Bi C' lz),fun C k lc hk e=>h.cont C k lc (lZ C k hk) e,h.jk,h.cP,
  fun C lc kb FO e ha hs=>h.sep C lc kb FO e (lZ C kb ha) hs,h.dJ,fun C k hk=>h.own C k (lZ C k hk),h.iB,h.lay,h.xg,h.jP,h.zo,fun b hh hy=>⟨(h.dR b hh hy).1,(h.dR b hh hy).2.1,(h.dR b hh hy).2.2.1,fun C l e ha=>(h.dR b hh hy).2.2.2 C l e (Bi C ha)⟩⟩
 cases hk:(A.put B none).get C with
 |none=>rfl
 |some k=>have:=h.cW C hC;grind
theorem Inv.forget(h:Inv w0 G β A w)(B:Nat)(l:Loc)(blk:aE)(hg:A.get B=some blk)(hB:β B=some l)(hG:G.n<=B)
 (hw:w.grownBy w' (some l.b)) (aS:w'.heap.size=w.heap.size) (hs:blk.still=false:=by rfl):Inv w0 G β (A.put B none) w':=by
 obtain⟨gg,aW⟩:=h.loc B l hB;have dQ:w0.heap.size<=l.b\/β.x l.b:=aW.resolve_left a0B;have hz:β.z l.b=none:=h.sep B l blk hG hB hg hs;have lZ:∀C k,(A.put B none).get C=some k->C≠B/\A.get C=some k:=fun C k hs=>by
  grind [A.gk]
 have Bi:∀C,((A.put B none).get C).isSome=true->(A.get C).isSome=true:=fun C hs=>by
  cases hk:(A.put B none).get C with
  |none=>grind
  |some k=>grind
 refine⟨h.below.grown hw dQ,h.fI,fun C hC=> ?_,fun C lc e=> ?_,fun C C' lc qn e e' eE ha lz=>h.inj C C' lc qn e e' eE (Bi C ha) (Bi C' lz),fun C k lc hk e=> ?_,h.jk,
  fun b cs e=>OH hw (fun e2=>a0D) (h.cP b cs e),fun C lc kb FO e ha hs=>h.sep C lc kb FO e (lZ C kb ha).2 hs,h.dJ,fun C k hk=>h.own C k (lZ C k hk).2,h.iB,h.lay,h.xg,h.jP,h.zo,fun b hh hy=>WN h hw hB (by rw[hg];rfl) hy Bi⟩
 ·cases hk:(A.put B none).get C with
  |none=>rfl
  |some k=>have:=h.cW C hC;grind
 ·rw[aS];exact h.loc C lc e
 ·obtain⟨bq,hk⟩:=lZ C k hk;have bM:lc.b≠l.b:=fun eE=>bq (h.inj C B lc l e hB eE (by rw[hk];rfl) (by rw[hg];rfl))
  rw[hw.block lc.b (h.loc C lc e).1 (fun e3=>bM (xC e3))]
  grind [h.cont]
end
def mk(k:xO):Nat:=match k with| .i8| .u8=>256| .i16| .u16=>65536| .i32| .u32=>4294967296| .i64| .u64=>18446744073709551616
def hk(k:xO):Nat:=match k with| .i8=>128| .i16=>32768| .i32=>2147483648| .i64=>9223372036854775808| .u8=>256| .u16=>65536| .u32=>4294967296| .u64=>18446744073709551616
def gG(k:xO)(n:Int):Int:=
 let r:=Int.rec (motive:=fun _=>Nat) (fun m=>Nat.mod m (mk k)) (fun m=>Nat.sub (Nat.sub (mk k) 1) (Nat.mod m (mk k))) n
 bs (Nat.ble (hk k) r) (Int.negSucc (Nat.sub (Nat.sub (mk k) r) 1)) (Int.ofNat r)
theorem KM(k:xO):(2^k.bits:Int)=(mk k:Nat):=by cases k<;>rfl
theorem Zx(k:xO):0<mk k:=by cases k<;>decide
theorem bc1(k:xO)(n:Int):n% (2^k.bits:Int)=(Int.rec (motive:=fun _=>Nat) (fun m=>Nat.mod m (mk k)) (fun m=>Nat.sub (Nat.sub (mk k) 1) (Nat.mod m (mk k))) n:Nat):=by
 rw[KM];have hp:=Zx k;cases n with
 |ofNat m=>rfl
 |negSucc m=>
  show Int.subNatNat (mk k) (Nat.succ (m%mk k))=((mk k - 1 - m%mk k:Nat):Int)
  grind [Nat.mod_lt,Int.subNatNat_of_le]
theorem lW(k:xO)(n:Int):gG k n=k.wrap n:=by
 have h:=bc1 k n;unfold gG IntKind.wrap;simp only [h];have hr:(Int.rec (motive:=fun _=>Nat) (fun m=>Nat.mod m (mk k)) (fun m=>Nat.sub (Nat.sub (mk k) 1) (Nat.mod m (mk k))) n:Nat)<mk k:=by
  have:=Int.emod_lt_of_pos n (show(0:Int)<2^k.bits by grind [KM,Zx]);rw[h,KM] at this;omega
 generalize (Int.rec (motive:=fun _=>Nat) (fun m=>Nat.mod m (mk k)) (fun m=>Nat.sub (Nat.sub (mk k) 1) (Nat.mod m (mk k))) n:Nat)=r at*;rw[KM];cases hb:Nat.ble (hk k) r with
 |true=>
  rw[eQ];have aK:hk k<=r:=xh hb;have hs:k.signed=true/\(2^ (k.bits - 1):Int)=(hk k:Nat):=by
   cases k<;>first|exact⟨rfl,rfl⟩|(exfalso;simp only [hk,mk] at aK hr;omega)
  grind
 |false=>
  rw[ku];have bk: ¬hk k<=r:=fun h=>by grind [Nat.ble_eq_true_of_le]
  rw[if_neg]
  ·rfl
  ·intro hc;simp only [xf,decide_eq_true_eq,ge_iff_le] at hc;have:(2^ (k.bits - 1):Int)=(hk k:Nat):=by
    cases k<;>first|rfl|(exfalso;exact absurd hc.1 a0I)
   grind
def mo(a b:Int):Bool:=
 Int.rec (motive:=fun _=>Bool) (fun m=>Int.rec (motive:=fun _=>Bool) (fun n=>Nat.beq m n) (fun _=>false) b) (fun m=>Int.rec (motive:=fun _=>Bool) (fun _=>false) (fun n=>Nat.beq m n) b) a
theorem oQ(m n:Nat):Nat.beq m n=decide (m=n):=by
 by_cases h:m=n
 ·subst h;simp
 grind [decide_eq_false,Nat.beq,absurd,xb]
theorem oG(a b:Int):mo a b=decide (a=b):=by
 cases a<;>cases b<;>simp only [mo,oQ]<;>simp<;>omega
def iI(a b:Int):Bool:=
 Int.rec (motive:=fun _=>Bool) (fun m=>Int.rec (motive:=fun _=>Bool) (fun n=>Nat.blt m n) (fun _=>false) b) (fun m=>Int.rec (motive:=fun _=>Bool) (fun _=>true) (fun n=>Nat.blt n m) b) a
theorem ai4(m n:Nat):Nat.blt m n=decide (m<n):=by
 grind [decide_eq_true,Nat.ble_eq_true_of_le,decide_eq_false,Nat.blt,absurd,xh]
theorem nZ(a b:Int):iI a b=decide (a<b):=by
 cases a with
 |ofNat m=>
  cases b with
  |ofNat n=>
   show Nat.blt m n=_;rw[ai4];simp
  |negSucc n=>
   show false=_
   grind
 |negSucc m=>
  cases b with
  |ofNat n=>
   show true=_
   grind
  |negSucc n=>
   show Nat.blt n m=_
   grind [ai4]
def n8(op:BinOp)(k:xO)(a b:Int):Option Int:=
 match a,b with
 | .ofNat m,.ofNat n=>
  match op with
  | .and=>some (gG k (.ofNat (Nat.land (Nat.mod m (mk k)) (Nat.mod n (mk k)))))
  | .or=>some (gG k (.ofNat (Nat.lor (Nat.mod m (mk k)) (Nat.mod n (mk k)))))
  | .xor=>some (gG k (.ofNat (Nat.xor (Nat.mod m (mk k)) (Nat.mod n (mk k)))))
  |_=>none
 |_,_=>none
theorem OC(w m:Nat):(BitVec.ofInt w (Int.ofNat m)).toNat=m%2^w:=a0C
theorem PR(k:xO):2^k.bits=mk k:=by cases k<;>rfl
theorem Kl{a b r:Int}(h:n8 op k a b=some r)(P:Program)(w:World):(Op.intBits op k a b).run P w= .ok (.int k r) w/\(op= .and\/op= .or\/op= .xor):=by
 unfold n8 at h;split at h
 ·split at h<;>cases h
  ·refine⟨?_,.inl rfl⟩;simp only [Op.intBits,lW,BitVec.toNat_and,OC,PR];rfl
  ·refine⟨?_,.inr (.inl rfl)⟩;simp only [Op.intBits,lW,BitVec.toNat_or,OC,PR];rfl
  ·refine⟨?_,.inr (.inr rfl)⟩;simp only [Op.intBits,lW,BitVec.toNat_xor,OC,PR];rfl
 ·cases h
def ai7:xO->Nat| .i8=>0| .i16=>1| .i32=>2| .i64=>3| .u8=>4| .u16=>5| .u32=>6| .u64=>7
def dA(a b:xO):Bool:=Nat.beq (ai7 a) (ai7 b)
theorem pY{a b:xO}(h:dA a b=true):a=b:=by
 unfold dA at h;cases a<;>cases b<;>first|rfl|(exact absurd h a0I)
theorem ax{c:Bool}{t f r:α}(h:bs c t f=r):(c=true/\t=r)\/(c=false/\f=r):=by
 cases c
 ·exact .inr ⟨rfl,h⟩
 ·exact .inl ⟨rfl,h⟩
def rX(op:BinOp)(k:xO)(a b:Int):a0t:=
 match op with
 | .add=>some (.int k (gG k (Int.add a b)))
 | .sub=>some (.int k (gG k (Int.sub a b)))
 | .mul=>some (.int k (gG k (Int.mul a b)))
 | .quo=>bs (mo b 0) none (some (.int k (gG k (Int.tdiv a b))))
 | .rem=>bs (mo b 0) none (some (.int k (Int.tmod a b)))
 | .and=>(n8 .and k a b).map (.int k)
 | .or=>(n8 .or k a b).map (.int k)
 | .xor=>(n8 .xor k a b).map (.int k)
 | .eql=>some (.bool (mo a b))
 | .neq=>some (.bool (not (mo a b)))
 | .lss=>some (.bool (iI a b))
 | .leq=>some (.bool (not (iI b a)))
 | .gtr=>some (.bool (iI b a))
 | .geq=>some (.bool (not (iI a b)))
 |_=>none
def B6(op:BinOp)(k:xO)(a:Int)(k':xO)(b:Int):a0t:=
 match op with
 | .shl=>bs (iI b 0) none (some (.int k (gG k (Int.mul a (.ofNat (Nat.pow 2 (Nat.min (Int.toNat b) k.bits)))))))
 | .shr=>bs (iI b 0) none (some (.int k (Int.fdiv a (.ofNat (Nat.pow 2 (Nat.min (Int.toNat b) k.bits))))))
 |op=>bs (dA k k') (rX op k a b) none
theorem Yg(n:Nat):(2:Int)^n=Int.ofNat (2^n):=by
 grind
theorem NI(a b:Int):decide (a<=b)= !decide (b<a):=by
 grind
theorem aP5{a b:Int}{v:xM}(h:rX op k a b=some v)(t:xN)(P:Program)(w:World):
 (binOp op t (.int k a) (.int k b)).run P w= .ok v w/\∀β,aj β v v:=by
 unfold rX at h;split at h
 ·cases h;refine⟨?_,fun β=> .int _ _⟩;rw[lW];simp only [binOp,Op.intArith,ne_eq,not_true,if_false];rfl
 ·cases h;refine⟨?_,fun β=> .int _ _⟩;rw[lW];simp only [binOp,Op.intArith,ne_eq,not_true,if_false];rfl
 ·cases h;refine⟨?_,fun β=> .int _ _⟩;rw[lW];simp only [binOp,Op.intArith,ne_eq,not_true,if_false];rfl
 ·rcases ax h with⟨_,h⟩|⟨hc,h⟩
  ·cases h
  ·cases h;rw[oG] at hc;have hb: ¬b=0:=by simpa using hc
   refine⟨?_,fun β=> .int _ _⟩;rw[lW];simp[binOp,Op.intDiv,hb]
 ·rcases ax h with⟨_,h⟩|⟨hc,h⟩
  ·cases h
  ·cases h;rw[oG] at hc;have hb: ¬b=0:=by simpa using hc
   refine⟨?_,fun β=> .int _ _⟩;simp[binOp,Op.intDiv,hb]
 ·obtain⟨r,hr,rfl⟩:=xp.1 h;exact⟨by simp only [binOp,ne_eq,not_true,if_false];grind [Kl],fun β=> .int _ _⟩
 ·obtain⟨r,hr,rfl⟩:=xp.1 h;exact⟨by simp only [binOp,ne_eq,not_true,if_false];grind [Kl],fun β=> .int _ _⟩
 ·obtain⟨r,hr,rfl⟩:=xp.1 h;exact⟨by simp only [binOp,ne_eq,not_true,if_false];grind [Kl],fun β=> .int _ _⟩
 ·cases h;refine⟨?_,fun β=> .bool _⟩;rw[oG];simp[binOp,Op.intCmp];rfl
 ·cases h;refine⟨?_,fun β=> .bool _⟩;rw[oG];simp[binOp,Op.intCmp];rfl
 ·cases h;refine⟨?_,fun β=> .bool _⟩;rw[nZ];simp[binOp,Op.intCmp]
 ·cases h;refine⟨?_,fun β=> .bool _⟩;rw[nZ];simp[binOp,Op.intCmp];exact NI a b
 ·cases h;refine⟨?_,fun β=> .bool _⟩;rw[nZ];simp[binOp,Op.intCmp]
 ·cases h;refine⟨?_,fun β=> .bool _⟩;rw[nZ];simp[binOp,Op.intCmp];exact NI b a
 ·cases h
theorem aZ9{k':xO}{a b:Int}{v:xM}(h:B6 op k a k' b=some v)(t:xN)(P:Program)(w:World):
 (binOp op t (.int k a) (.int k' b)).run P w= .ok v w/\∀β,aj β v v:=by
 unfold B6 at h;split at h
 ·rcases ax h with⟨_,h⟩|⟨hc,h⟩
  ·cases h
  ·cases h;rw[nZ] at hc;have hb: ¬b<0:=by simpa using hc
   refine⟨?_,fun β=> .int _ _⟩;rw[lW];simp only [binOp,Op.shift,if_neg hb,Yg];rfl
 ·rcases ax h with⟨_,h⟩|⟨hc,h⟩
  ·cases h
  ·cases h;rw[nZ] at hc;have hb: ¬b<0:=by simpa using hc
   refine⟨?_,fun β=> .int _ _⟩;simp only [binOp,Op.shift,if_neg hb,Yg];rfl
 ·rcases ax h with⟨hk,h2⟩|⟨_,h2⟩
  ·grind [pY,hk,aP5]
  ·cases h2
def sU:List xO->List D->List D->Option Bool
 |[],[],[]=>some true
 |k::ks,.int k1 m::a,.int k2 n::b=>if k1=k/\k2=k then(sU ks a b).map fun r=>decide (m=n)&&r else none
 |_,_,_=>none
def ofInt(x:a0t):a0w:=match x with|some (.int k n)=>some (.int k n)|some (.bool b)=>some (.bool b)|_=>none
def zS(op:BinOp)(r:Bool):a0w:=match op with| .eql=>some (.bool r)| .neq=>some (.bool !r)|_=>none
def K7(op:BinOp)(c:Nat)(x y:D):a0w:=
 match x,y with
 | .int k a,.int k' b=>ofInt (B6 op k a k' b)
 | .str a,.str b=>match op with
  | .add=>if a.length+b.length<=9223372036854775807 then some (.str (a++b)) else none
  |op=>zS op (decide (a=b))
 | .ptr _ _,.pC=>if c=2/\op= .eql then some (.bool false) else none
 | .pC,.pC=>if c=2/\op= .eql then some (.bool true) else none
 |_,_=>none
def LY(op:UnOp)(x:D):a0w:=
 match op,x with
 | .xor,.int k n=>if k.signed then none else(n8 .xor k (.ofNat (Nat.sub (mk k) 1)) n).map (.int k)
 |_,_=>none
def Kr(x i:D):a0w:=match x,i with| .str l,.int _ (.ofNat m)=>(l[m]?).map fun b=> .int .u8 b.toNat|_,_=>none
def tA:D->a0r| .int _ (.ofNat a)=>some a|_=>none
def GH(x:D)(a b:a0r):a0w:=match x,a with| .str l,some a=>if a<=b.getD l.length/\b.getD l.length<=l.length then some (.str ((l.drop a).take (b.getD l.length - a))) else none|_,_=>none
def Gq(rows:a0b)(n:Nat):Bool:=match rows with|[]=>true|row::_=>decide (row.length=n)
def Bh(es:Nat)(x:D)(a b:a0r):a0w:=match x,a with| .sl rows,some a=>if a<=b.getD rows.length/\b.getD rows.length<=rows.length/\(a=0\/Gq rows es=true) then some (.sl ((rows.drop a).take (b.getD rows.length - a))) else none|_,_=>none
def Kt(es:Nat)(x i:D):a0w:=match x,i with| .sl rows,.int _ (.ofNat m)=>(rows[m]?).bind fun row=>if row.length=es then some (.ptr row 0) else none|_,_=>none
def LZ(x:D):a0w:=match x with| .ptr row o=>(row[o]?).bind fun d=>if d.cell then some d else none|_=>none
def K6(n:Nat)(x:D):a0w:=match x with| .ptr row o=>if o+n<=row.length then some (.agg ((row.drop o).take n)) else none|_=>none
def He(ks:a0u)(neg:Bool)(x y:D):a0w:=match x,y with| .agg a,.agg b=>(sU ks a b).map fun r=> .bool (r !=neg)|_,_=>none
def QP(k:xO)(x:D):a0w:=match x with| .int _ n=>some (.int k (k.wrap n))|_=>none
def Hf(x:D):a0w:=match x with| .str l=>some (.str l)|_=>none
def P5(x:D):a0w:=match x with| .str l=>some (.int .i64 l.length)|_=>none
def DM(x:D):a0w:=match x with| .sl rows=>some (.int .i64 rows.length)|_=>none
def QO(off:Nat)(x:D):a0w:=match x with| .ptr row o=>some (.ptr row (o+off))|_=>none
def QN(x:D):a0w:=match x with| .ptr row o=>some (.ptr row o)| .func f p q=>some (.func f p q)|_=>none
def Fj(f:D->Option Nat->Option Nat->a0w)(ds:a0d):a0w:=match ds with|[x,a,b]=>(tA b).bind fun b=>f x (tA a) (some b)|[x,a]=>f x (tA a) none|_=>none
def uy(es:Nat):Nat->List D->Option (List (List D))
 |0,_=>some []
 |n+1,l=>if es<=l.length then(uy es n (l.drop es)).map fun r=>l.take es::r else none
theorem NZ:∀{n:Nat} {l:a0d} {rows:a0b},uy es n l=some rows->rows.length=n/\(∀row∈rows,row.length=es)/\n*es<=l.length/\∀(i:Nat) (row:a0d) (j:Nat) (d:D),rows[i]? =some row->row[j]? =some d->l[i*es+j]? =some d
 |0,l,rows,h=>by
  cases h
  grind
 |n+1,l,rows,h=>by
  unfold uy at h;split at h
  ·rename_i aK;obtain⟨r,hr,rfl⟩:=xp.1 h;obtain⟨h1,h2,h3,h4⟩:=NZ hr;have lq:(l.drop es).length=l.length - es:=List.length_drop;refine⟨by simp[h1],fun row fb=> ?_,?_,fun i row j d hi hj=> ?_⟩
   ·grind
   ·grind
   ·cases i with
    |zero=>
     grind
    |succ i=>
     grind
  ·cases h
def Hp(es:Nat)(d:D):Option (List (List D)):=
 match d with
 | .sl rows=>if rows.all (fun r=>r.length==es&&r.all D.cell) then some rows else none
 | .str l=>if es=1 then some (l.map fun b=>[.int .u8 (b.toNat:Nat)]) else none
 |_=>none
def mK(n bys:Nat):Bool:=decide (n<=9223372036854775807)&&decide (n*bys<=140737488355328)
def ZS(es bys:Nat)(b x:D):a0w:=
 match b with
 | .sl rows=>(Hp es x).bind fun q=>if mK (rows.length+q.length) bys then some (.sl (rows++q)) else none
 |_=>none
def yX(l:a0d)(off n:Nat)(row:Bool):a0w:=if off+n<=l.length then(if row then some (.agg ((l.drop off).take n)) else(l[off]?).bind fun d=>if d.cell then some d else none) else none
def HH(n i:D):a0w:=match n,i with| .int _ (.ofNat n),.int _ (.ofNat m)=>some (.bool (decide (m<n)))| .sl rows,.int _ (.ofNat m)=>some (.bool (decide (m<rows.length)))|_,_=>none
def XH(off n:Nat)(row:Bool)(x i:D):a0w:=match x,i with| .sl rows,.int _ (.ofNat m)=>(rows[m]?).bind fun r=>yX r off n row|_,_=>none
def XG(off:Nat)(x i:D)(ds:a0d):a0w:=match x,i with| .sl rows,.int _ (.ofNat m)=>(rows[m]?).bind fun r=>if off+ds.length<=r.length then some (.sl (rows.set m (r.take off++ds++r.drop (off+ds.length)))) else none|_,_=>none
def BH(es bys:Nat)(n c:D)(zs:a0d):a0w:=match n,c with| .int .i64 (.ofNat m),.int .i64 (.ofNat k)=>if zs.length=es/\m<=k/\mK k bys=true then some (.sl (List.replicate m zs)) else none|_,_=>none
def wh:List D->Option (List UInt8)|[]=>some []| .int .u8 (.ofNat n)::l=>if n<256 then(wh l).map fun r=>n.toUInt8::r else none|_=>none
def Lv(k:xO):a0d->Int->a0w
 |[],x=>some (.int k x)
 | .int _ y::r,x=>Lv k r (if x<y then y else x)
 |_::_,_=>none
def RY(ds:a0d):a0w:=match ds with| .int k x::r=>Lv k r x|_=>none
def EK(k:xO):a0d->Int->a0w
 |[],x=>some (.int k x)
 | .int _ y::r,x=>EK k r (if y<x then y else x)
 |_::_,_=>none
def K8(ds:a0d):a0w:=match ds with| .int k x::r=>EK k r x|_=>none
def Pg(x n:D):a0w:=match x,n with| .sl rows,.int .i64 m=>if m=(rows.length:Int)/\rows.length<=9223372036854775807 then(wh rows.flatten).map .str else none|_,_=>none
def Rv(s:a0h):a0d->Bool|[.str a,_]=>decide (s=a)|_=>false
def vh(s:a0h)(v:D):List (List D)->List (List D)|[]=>[[.str s,v]]|row::t=>if Rv s row then[.str s,v]::t else row::vh s v t
def Ph(m k v:D):a0w:=match m,k with| .sl rows,.str s=>if v.cell then some (.sl (vh s v rows)) else none|_,_=>none
def QQ(n:Nat)(i x:D)(eT:a0d):a0w:=
 match i,x with
 | .int _ (.ofNat m),.sl rows=>if rows.all (fun r=>r.length==1&&r.all D.cell)=true/\m<=n/\eT.length=n then some (.agg (.int .i64 (min rows.length (n - m):Nat)::(eT.take m++(rows.take (n - m)).flatten++eT.drop (m+min rows.length (n - m))))) else none
 |_,_=>none
def kD:List D->List D->Bool|[],[]=>true| .int _ m::a,.int _ n::b=>decide (m=n)&&kD a b|_,_=>false
def lY(k:a0d):a0d->Bool|[.agg es,_]=>kD k es|_=>false
def tP(k:a0d)(v:D):List (List D)->List (List D)|[]=>[[.agg k,v]]|row::t=>if lY k row then[.agg k,v]::t else row::tP k v t
def nI(k:a0d):List (List D)->Option D|[]=>none|row::t=>if lY k row then row[1]? else nI k t
def OL(ks:a0u)(m k v:D):a0w:=match m,k with| .sl rows,.agg ds=>if(fC ks ds).isSome&&v.cell then some (.sl (tP ds v rows)) else none|_,_=>none
def Gc(ks:a0u)(m k z:D):a0w:=match m,k with| .sl rows,.agg ds=>if(fC ks ds).isSome then some ((nI ds rows).getD z) else none|_,_=>none
def cY(k:a0d):List (List D)->Option Nat|[]=>none|row::t=>if lY k row then some 0 else(cY k t).map (· +1)
def Om(ks:a0u)(m k z:D):a0w:=match m,k with| .sl rows,.agg ds=>if(fC ks ds).isSome&&z.cell then some (.agg [.sl (if(cY ds rows).isSome then rows else rows++[[.agg ds,z]]),(nI ds rows).getD z,.int .i64 ((cY ds rows).getD rows.length:Nat)]) else none|_,_=>none
def Gb(m s v:D):a0w:=match m,s with| .sl rows,.int .i64 (.ofNat i)=>(match rows[i]? with|some [k,_]=>if v.cell then some (.sl (rows.set i [k,v])) else none|_=>none)|_,_=>none
def P4(c h:D):a0w:=match c,h with| .sl rows,.int _ (.ofNat m)=>if m<=rows.length then some (.sl (rows.take m)) else none|_,_=>none
def Ol(ks:a0u)(m k:D):a0w:=
 match m,k with
 | .sl rows,.agg ds=>if(fC ks ds).isSome then(match cY ds rows with
  |none=>some (.agg [.sl (rows++[[.agg ds,fc]]),.sl [],.int .i64 (rows.length:Nat)])
  |some j=>match rows[j]? with
   |some [_,.sl rs]=>some (.agg [.sl (rows.set j [.agg ds,fc]),.sl rs,.int .i64 (j:Nat)])
   |_=>none) else none
 |_,_=>none
def Oi(ks:a0u)(m k:D):a0w:=
 match m,k with
 | .sl rows,.agg ds=>if(fC ks ds).isSome then(match cY ds rows with
  |none=>some (.agg [.sl rows,.sl []])
  |some j=>match rows[j]? with
   |some [_,.sl rs]=>some (.agg [.sl (rows.set j [.agg ds,fc]),.sl rs])
   |_=>none) else none
 |_,_=>none
def Oj(ks:a0u)(m k v:D):a0w:=
 match m,k,v with
 | .sl rows,.agg ds,.sl rs=>if(fC ks ds).isSome then(match cY ds rows with
  |none=>some (.sl rows)
  |some j=>match rows[j]? with
   |some [_,.pC]=>some (.sl (rows.set j [.agg ds,.sl rs]))
   |_=>none) else none
 |_,_,_=>none
def ltK:List D->List D->Bool| .int _ a::l,.int _ b::r=>decide (a<b)||(decide (a=b)&&ltK l r)|_,_=>false
def M9(a b:a0d):Bool:=match a,b with| .agg x::_,.agg y::_=>ltK x y|_,_=>false
def zK(r:a0d):List (List D)->List (List D)|[]=>[r]|x::t=>if M9 r x then r::x::t else x::zK r t
def tK(l:a0b):a0b:=l.foldr zK []
def Rc:a0d->Bool|[.agg _,.sl _]=>true|_=>false
def On(m:D):a0w:=match m with| .sl rows=>if rows.all Rc then some (.sl (tK rows)) else none|_=>none
def GJ(neg:Bool)(x:D):a0w:=match neg,x with|false,.sl (_::_)=>some (.bool false)|_,_=>none
def aL(k:NK)(ds:a0d):a0w:=
 match k,ds with
 | .bin op c,[x,y]=>K7 op c x y
 | .vI ks neg,[x,y]=>He ks neg x y
 | .un op,[x]=>LY op x
 | .mv k,[x]=>QP k x
 | .F2,[x]=>Hf x
 | .H4,[x]=>P5 x
 | .uT,[x]=>DM x
 | .EN,[x,i]=>Kr x i
 | .HT,ds=>Fj GH ds
 | .qk es,ds=>Fj (Bh es) ds
 | .uU es,[x,i]=>Kt es x i
 | .tI off,[x]=>QO off x
 | .ld,[x]=>LZ x
 | .xW n,[x]=>K6 n x
 | .Hs,[x]=>QN x
 | .cP es n,ds=>if ds.length=n*es then(uy es n ds).map .sl else none
 | .Ik o,ds=>some (.ptr ds o)
 | .app es bys,[b,x]=>ZS es bys b x
 | .jf,[n,i]=>HH n i
 | .qK off n row,[x,i]=>XH off n row x i
 | .vk es off n row,i::ds=>match i with| .int _ (.ofNat m)=>yX ds (m*es+off) n row|_=>none
 | .ky off,x::i::ds=>XG off x i ds
 | .n5 es bys,n::c::zs=>BH es bys n c zs
 | .strOf,ds=>(wh ds).map .str
 | .mx,ds=>RY ds
 | .mn,ds=>K8 ds
 | .Ea,[x,n]=>Pg x n
 | .Ef,[m,k,v]=>Ph m k v
 | .F4 n,i::x::eT=>QQ n i x eT
 | .uB ks,[m,k,v]=>OL ks m k v
 | .DF ks,[m,k,z]=>Gc ks m k z
 | .AU ks,[m,k,z]=>Om ks m k z
 | .vY,[m,s,v]=>Gb m s v
 | .HU,[c,h]=>P4 c h
 | .DG ks,[m,k]=>Ol ks m k
 | .DC ks,[m,k]=>Oi ks m k
 | .DE ks,[m,k,v]=>Oj ks m k v
 | .DH,[m]=>On m
 | .B1 n,[x]=>GJ n x
 |_,_=>none
def bP(δ:a0j)(nd:Node):Prop:=
 match nd.k with
 | .call _=>True
 | .mj _=>True
 | .own _=>True
 | .tj _ _=>True
 |k=>∃ds d,aI (bR δ) nd.args=some ds/\iA δ nd.res=some d/\aL k ds=some d
section
variable{β:af}
theorem GF{v:xM}{d:D}(h:aZ β.d v=some d)(hv:aj β v v'):Rd β.z d v'/\d.cell=true:=by
 unfold aZ at h;split at h
 ·rename_i c;obtain⟨x,hx,h⟩:=xr.1 h;split at h<;>cases h
  cases hv with
  |sym _ d2 _ h2 hc hr=>grind
 ·cases h;cases hv;exact⟨.int _ _,rfl⟩
 ·cases h;cases hv;exact⟨.bool _,rfl⟩
 ·cases h;cases hv;exact⟨.str _,rfl⟩
 ·cases h;cases hv;exact⟨.pC,rfl⟩
 ·cases h;cases hv;exact⟨.rj,rfl⟩
 ·cases h;cases hv;exact⟨.B0,rfl⟩
 ·cases h;cases hv;exact⟨.BZ,rfl⟩
 ·cases h;cases hv;exact⟨.BY,rfl⟩
 ·cases h;cases hv with
  |func f p p' q q' hp hq _ _=>exact⟨.func _ [] [] p' q' hp hq (fun i d v h=>by simp at h) (fun i d v h=>by simp at h),rfl⟩
 ·cases h
theorem pd{g:xM->a0w}:∀{l:a0e} {ds:a0d},aI g l=some ds->ds.length=l.length
 |[],ds,h=>by cases h;rfl
 |v::l,ds,h=>by
  unfold aI at h;split at h
  ·rename_i h1 h2;cases h;simp[pd h2]
  ·cases h
theorem ng{g:xM->a0w}:∀{l:a0e} {ds:a0d},aI g l=some ds->∀{i:Nat} {d:D} {v:xM},ds[i]? =some d->l[i]? =some v->g v=some d
 |[],ds,h,i,d,v,h1,h2=>by simp at h2
 |v::l,ds,h,i,d,u,h1,h2=>by
  unfold aI at h;split at h
  ·rename_i x r hx hr;cases h;cases i with
   |zero=>simp at h1 h2;subst h1;subst h2;exact hx
   |succ i=>simp at h1 h2;exact ng hr h1 h2
  ·cases h
theorem eU{v:xM}{d:D}(h:bR β.d v=some d)(hv:aj β v v'):Rd β.z d v':=by
 unfold bR at h;split at h
 ·rename_i l;obtain⟨ds,h1,rfl⟩:=xp.1 h;cases hv with
  |agg _ p' hp h2=>
   refine .agg ds p' ((pd h1).trans hp) fun i d v' hd gz=> ?_
   have hi:i<l.length:=by rw[hp];exact(xe.1 gz).1
   grind [GF,ng,xc]
 grind [GF]
theorem rL{v:xM}{d:D}(h:eH β.d v=some d)(hv:Rd β.z d v'):aj β v v':=by
 unfold eH at h;split at h
 ·cases h
 ·rename_i gI;unfold aZ at h;split at h
  ·obtain⟨x,hx,h⟩:=xr.1 h;split at h<;>cases h
   exact .sym _ _ _ hx (by assumption) hv
  ·cases h;cases hv;exact .int _ _
  ·cases h;cases hv;exact .bool _
  ·cases h;cases hv;exact .string _
  ·cases h;cases hv;exact .qf
  ·grind
  ·cases h;cases hv;exact .nilFunc
  ·cases h;cases hv;exact .nilIface
  ·cases h;cases hv;exact .B3
  ·cases h;cases hv with
   |func f p q p' q' hp hq _ _=>
    exact .func _ [] p' [] q' hp hq (fun i v v' h=>by simp at h) (fun i v v' h=>by simp at h)
  ·cases h
theorem vS{v:xM}{d:D}(h:iA β.d v=some d)(hv:Rd β.z d v'):aj β v v':=by
 unfold iA at h;split at h
 ·rename_i l;obtain⟨ds,h1,rfl⟩:=xp.1 h;cases hv with
  |agg _ p' hp h2=>
   refine .agg l p' ((pd h1).symm.trans hp) fun i v v' hl gz=> ?_
   have hi:i<ds.length:=by rw[hp];exact(xe.1 gz).1
   grind [rL,ng,xc]
 ·exact rL h hv
end
structure Row where
 desc:TypeDesc
 size:Nat
 bytes:Nat
 zero:a0e
 rb:Bool
structure au where
 ti:T (Option Row)
 fn:T (Option Func)
 ne:a0g
 mz:List (Nat×Nat)
 lay:List (Nat×Nat×Nat)
 G:GP
def bi8(d:TypeDesc):Bool:=match d with| .struct _| .array _ _=>true|_=>false
structure au.Ok (E:au) (P:Program):Prop where
 mixed:P.follows .mixedOrders=true
 ti:∀t r,E.ti.get none t=some r->P.underlying t=some r.desc/\∃i,P.info? t=some i/\i.size=r.size/\i.bytes=r.bytes/\(r.rb=true->∃z,i.zero=some z/\z.cells=⟨r.zero⟩)
 fn:∀f fn,E.fn.get none f=some fn->P.funcs[f]? =some fn/\(fn.name== "runtime.NumGoroutine")=false
 zr:∀t r i z,E.ti.get none t=some r->P.info? t=some i->r.rb=true->i.zero=some z->z=(match r.desc with| .struct _=> .agg ⟨r.zero⟩| .array _ _=> .agg ⟨r.zero⟩|_=>match r.zero with|[c]=>c|_=>z)/\(bi8 r.desc=false->∃c,r.zero=[c])
 ne:∀f,f∈E.ne->∀(x:xM) (w:World),(callFunc f #[x]).run P w= .ok (.value x) w
 mz:∀f t,(f,t)∈E.mz->∃ps,∀(args:a0x) (w:World),(callFunc f args).run P w=(do pure (.value (<-Extern.BytealgMakeNoZero.makeNoZero ps #[t] args)):Sem Next).run P w
 lay:∀e u o,(e,u,o)∈E.lay->liesAt P P.depth e 1 o u 1=true
 any:∀r,E.ti.get none jS≠some r
 q:∀δ nd,E.G.Q δ nd->bP δ nd
 lx:∀w w':World,E.G.L w->(∀b,b<E.G.n->w'.heap[b]? =w.heap[b]?)->E.G.L w'
def D7{ρ:Type}(b:Bool->xM->ρ)(i:xO->Int->xM->ρ)(s:ByteArray->xM->ρ)(p:Option Addr->xM->ρ)(sl:Option Addr->Nat->Nat->xM->ρ)(ag:a0x->xM->ρ)(o:xM->ρ)(v:xM):xM->ρ:=
 @Value.rec (fun _=>xM->ρ) (fun _=>PUnit) (fun _=>PUnit) b i (fun _ _=>o) (fun _ _ _=>o) s p sl (fun _=>o) (fun _=>o) (fun _ _ _ _ _=>o) o (fun _ _ _=>o) o (fun c _=>ag c) (fun _ _=>o) (fun _ _=>PUnit.unit) PUnit.unit (fun _ _ _ _=>PUnit.unit) v
def Li(v:xM):xM:=
 match v with
 | .map none=> .map none
 | .nilFunc=> .nilFunc
 | .nilIface=> .nilIface
 |_=>J
theorem uq(β:af)(v:xM):aj β (Li v) v:=by
 unfold Li;split
 ·exact .B3
 ·exact .nilFunc
 ·exact .nilIface
 ·exact .jW _
def Lh(a:Option Addr)(n c:Nat):xM:=match a,n,c with|none,0,0=> .slice none 0 0|_,_,_=>J
def pA(v:xM):xM:=
 D7 (fun _ v=>v) (fun _ _ v=>v) (fun _ v=>v) (fun a _=>match a with|none=> .pointer none|some _=>J) (fun a n c _=>Lh a n c) (fun _ _=>J) Li v v
theorem Dl(β:af)(v:xM):aj β (pA v) v:=by
 cases v with
 |bool b=>exact .bool _
 |int k n=>exact .int _ _
 |string s=>exact .string _
 |pointer a=>cases a with
  |none=>exact .qf
  |some a=>exact .jW _
 |slice a n c=>
  show aj β (Lh a n c) _;unfold Lh;split
  ·exact .rP
  ·exact .jW _
 |agg c=>exact .jW _
 |float k b=>exact uq β (.float k b)
 |complex k a b=>exact uq β (.complex k a b)
 |map r=>exact uq β (.map r)
 |chan r=>exact uq β (.chan r)
 |func f p q=>exact uq β (.func f p q)
 |nilFunc=>exact uq β .nilFunc
 |iface t v=>exact uq β (.iface t v)
 |nilIface=>exact uq β .nilIface
 |tuple c=>exact uq β (.tuple c)
def Sh(v:xM):xM:=
 match v with
 | .tuple ⟨[]⟩=> .tuple ⟨[]⟩
 |v=>Li v
def san(v:xM):xM:=
 D7 (fun _ v=>v) (fun _ _ v=>v) (fun _ v=>v) (fun a _=>match a with|none=> .pointer none|some _=>J) (fun a n c _=>Lh a n c) (fun c _=> .agg ⟨eY pA c.toList⟩) Sh v v
theorem AF(β:af)(l:a0e):aX β (eY pA l) l:=by
 rw[pj];refine⟨a0C,fun i v v' h h'=> ?_⟩
 grind [Dl]
theorem vR(β:af)(v:xM):aj β (Sh v) v:=by
 unfold Sh
 grind [aj.sK,aX.nil,uq]
theorem aV6(β:af)(v:xM):aj β (san v) v:=by
 cases v with
 |bool b=>exact .bool _
 |int k n=>exact .int _ _
 |string s=>exact .string _
 |pointer a=>exact Dl β (.pointer a)
 |slice a n c=>exact Dl β (.slice a n c)
 |agg c=>
  obtain⟨l⟩:=c;exact aj.nu (AF β l)
 |float k b=>exact vR β (.float k b)
 |complex k a b=>exact vR β (.complex k a b)
 |map r=>exact vR β (.map r)
 |chan r=>exact vR β (.chan r)
 |func f p q=>exact vR β (.func f p q)
 |nilFunc=>exact vR β .nilFunc
 |iface t v=>exact vR β (.iface t v)
 |nilIface=>exact vR β .nilIface
 |tuple c=>exact vR β (.tuple c)
abbrev Fr:=T xM
abbrev Gt:=Nat->xM
def ev(E:au)(fr:Gt)(x:Operand):xM:=
 Operand.rec (motive:=fun _=>au->Gt->xM) (fun t _ fr=>fr t) (fun v _ _=>san v) (fun g E _=>bs (Nat.blt g E.G.n) (.pointer (some ⟨g,0,none⟩)) J) (fun f _ _=> .func (.func f) ⟨[]⟩ ⟨[]⟩) x E fr
def bU(β:af)(n:Nat)(fr:Gt)(tmps:a0x):Prop:=tmps.size=n/\∀t,aj β (fr t) (tmps.getD t undef)
theorem bU.mono{β β':af}(hb:β.le β'){fr:Gt}{tmps:a0x}(h:bU β n fr tmps):bU β' n fr tmps:=⟨h.1,fun t=>(h.2 t).mono hb⟩
theorem bU.put{β:af}{n:Nat}{fr:Fr}{tmps:a0x}(h:bU β n (fr.get J) tmps){d:Nat}(hd:d<n){v v':xM}(hv:aj β v v'):bU β n ((fr.set d v).get J) (tmps.setIfInBounds d v'):=by
 refine⟨by simp[h.1],fun t=> ?_⟩;by_cases vz:d=t
 ·subst vz;have hs:d<tmps.size:=by rw[h.1];exact hd
  have:(tmps.setIfInBounds d v').getD d undef=v':=by simp[hs]
  rw[this];rcases T.ul J fr d v with e|e
  ·grind
  ·rw[e.1];exact .jW _
 ·rw[T.um J fr d t v vz];have:(tmps.setIfInBounds d v').getD t undef=tmps.getD t undef:=by simp[Array.getElem?_setIfInBounds_ne vz]
  rw[this];exact h.2 t
section
variable{P:Program}{E:au}(ok:E.Ok P){β:af}{A:AW}(inv:Inv w0 E.G β A w)
include inv
theorem j7{fr:Gt}{a:Act}(hf:bU β n fr a.tmps)(x:Operand):aj β (ev E fr x) (a.eval x):=by
 cases x with
 |tmp t=>exact hf.2 t
 |const v=>exact aV6 β v
 |global g=>
  show aj β (bs (Nat.blt g E.G.n) (.pointer (some ⟨g,0,none⟩)) J) (.pointer (some ⟨g,0,none⟩));cases hb:Nat.blt g E.G.n with
  |false=>exact .jW _
  |true=>
   obtain⟨l,hl,bM,hd⟩:=inv.jk g (xh hb);have:=aj.ptr (β:=β) g 0 l hl;rw[bM,hd] at this;exact this
 |func f=>exact aj.YK (aX.nil β) (aX.nil β)
def jw(A:AW)(B:Nat):Option (List xM):=
 match A.get B with
 |some ⟨.cells cs,_,_,_,_⟩=>some cs
 |_=>none
omit inv in
theorem ax2(h:jw A B=some cs):∃es ex ro ty,A.get B=some ⟨.cells cs,es,ex,ro,ty⟩:=by
 grind [jw]
theorem WW(h:jw A B=some cs){l:Loc}(hl:β B=some l):∃aB e fz,w.heap[l.b]? =some (.cells aB e fz)/\aB.size=l.sz/\l.d+cs.length<=l.sz/\
 (∀(i:Nat) (v:xM),cs[i]? =some v->∃v',aB[l.d+i]? =some v'/\aj β v v'):=by
 obtain⟨es,ex,ro,ty,hg⟩:=ax2 h;have:=inv.cont B _ l hg hl;obtain⟨aB,e,fz,h1,h2,h3,h4,_⟩:=this
 grind
theorem yC{B:Nat}{cs:a0e}(h:jw A B=some cs){l:Loc}(hl:β B=some l)(o n:Nat)(r:a0e)(hr:oK n (p9 o cs)=some r):
 ∃r',aX β r r'/\r.length=n/\w.rangeAt l.b (l.d+o) r':=by
 obtain⟨aB,e,fz,h1,h2,h3,h4⟩:=WW inv h hl;rw[Dq] at hr;obtain⟨eB,bu⟩:=Dn n _ r hr;rw[List.length_drop] at bu;by_cases hn:n=0
 ·subst hn;have:r=[]:=by rw[eB];rfl
  subst this;exact⟨[],aX.nil β,rfl,fun j v hv=>by simp at hv⟩
 ·have hon:o+n<=cs.length:=a0B
  have aD:r.length=n:=by rw[eB,xz,List.length_drop];omega
  have key:∀i v,r[i]? =some v->i<n/\∃v',aB[l.d+o+i]? =some v'/\aj β v v':=fun i v hv=>by
   grind
  have cJ:∀j,j<n->aB[l.d+o+j]? =some (aB.getD (l.d+o+j) undef):=fun j hj=>by
   have:l.d+o+j<aB.size:=a0B
   simp[this]
  refine⟨(List.range n).map (fun j=>aB.getD (l.d+o+j) undef),⟨by simp[aD],fun i v v' hv gz=> ?_⟩,aD,fun j v hv=> ?_⟩
  ·obtain⟨hi,u,hu,cz⟩:=key i v hv;rw[xx,List.getElem?_range hi] at gz;simp only [Option.map_some,Option.some.injEq] at gz;rw[cJ i hi] at hu;cases hu;rw[<-gz];exact cz
  ·have hj:j<n:=by have:=(xe.1 hv).1;simpa using this
   rw[xx,List.getElem?_range hj] at hv;simp only [Option.map_some,Option.some.injEq] at hv;rw[cell_of_row w l.b _ aB e fz h1,<-hv,cJ j hj]
include ok
omit inv in
theorem dL{r:Row}(h:E.ti.get none t=some r)(w:World):(sizeOf t).run P w= .ok r.size w:=by
 obtain⟨_,i,hi,hs,_⟩:=ok.ti t r h;simp[sizeOf,typeInfo,hi,hs]
def nq(d:TypeDesc):Bool:=match d with| .struct _| .array _ _=>true|_=>false
omit inv in
theorem Gd{r:Row}(h:E.ti.get none t=some r)(w:World):(isAgg t).run P w= .ok (nq r.desc) w:=by
 have hu:=(ok.ti t r h).1;cases hd:r.desc<;>simp[isAgg,run_underlying hu,hd,nq]
def zt(E:au)(A:AW)(t:xN)(x:xM):a0t:=
 match x with
 | .pointer (some ⟨B,o,none⟩)=>
  match jw A B,E.ti.get none t with
  |some cs,some r=>bs (nq r.desc) (match oK r.size (p9 o cs) with|some l=>some (.agg ⟨l⟩)|none=>none) (dP cs o)
  |_,_=>none
 |_=>none
theorem Yy{x v:xM}(h:zt E A t x=some v)(hx:aj β x x'):∃v',(Instr.loadAt t x').run P w= .ok v' w/\aj β v v':=by
 unfold zt at h;split at h
 ·rename_i B o;split at h
  ·rename_i cs r hc hr;cases hx with
   |ptr _ _ l hl=>
    have Ar:=Gd ok hr;rcases ax h with⟨hd,h⟩|⟨hd,h⟩
    ·split at h
     ·rename_i q hq;cases h;obtain⟨q',Fy,aD,ao⟩:=yC inv hc hl o r.size q hq;refine⟨.agg q'.toArray,?_,aj.nu Fy⟩;have aW:(loadCells ⟨l.b,l.d+o,none⟩ r.size).run P w= .ok q'.toArray w:=by
       rw[<-aD,Fy.1];exact run_loadCells_list (P:=P) w ⟨l.b,l.d+o,none⟩ q' (fun j u hu=>by rw[Addr.add_mid];exact ao j u hu)
      simp[Instr.loadAt,Instr.sureAddr,loadVar,Ar,hd,dL ok hr,aW]
     ·cases h
    ·rw[fK] at h;obtain⟨aB,e,fz,h1,_,_,h4⟩:=WW inv hc hl;obtain⟨v',gz,gp⟩:=h4 o v h;refine⟨v',?_,gp⟩;have iz:w.cell? ⟨l.b,l.d+o,none⟩=some v':=by rw[cell_of_row w l.b _ aB e fz h1];exact gz
     simp[Instr.loadAt,Instr.sureAddr,loadVar,Ar,hd,load,Sem.run,iz]
  ·cases h
 ·cases h
def bt6(E:au)(A:AW)(t:xN)(B o:Nat):a0t:=
 match jw A B,E.ti.get none t with
 |some cs,some r=>bs (nq r.desc) (match oK r.size (p9 o cs) with|some l=>some (.agg ⟨l⟩)|none=>none) (dP cs o)
 |_,_=>none
def bt5(E:au)(A:AW)(t:xN)(a:Option Addr):a0t:=match a with|some ⟨B,o,none⟩=>bt6 E A t B o|_=>none
def Rt(E:au)(A:AW)(t:xN)(x:xM):a0t:=
 D7 (ρ:=au->AW->xN->a0t) (fun _ _ _ _ _=>none) (fun _ _ _ _ _ _=>none) (fun _ _ _ _ _=>none) (fun a _ E A t=>bt5 E A t a) (fun _ _ _ _ _ _ _=>none) (fun _ _ _ _ _=>none) (fun _ _ _ _=>none) x x E A t
omit ok inv in
theorem aO2(E:au)(A:AW)(t:xN)(x:xM):Rt E A t x=zt E A t x:=by
 cases x with
 |pointer a=>
  cases a with
  |none=>rfl
  |some a=>
   obtain⟨B,o,m⟩:=a;cases m<;>rfl
 |_=>rfl
def Lo(E:au)(t:xN)(cs:a0e)(o:Nat):a0t:=
 match E.ti.get none t with
 |some r=>bs (nq r.desc) (match oK r.size (p9 o cs) with|some l=>some (.agg ⟨l⟩)|none=>none) (dP cs o)
 |none=>none
omit inv in
theorem Yi{bC:a0e}{o:Nat}{v:xM}(h:Lo E t cs o=some v)(hx:aX β cs bC)(w:World):∃v',(part t ⟨bC⟩ o).run P w= .ok v' w/\aj β v v':=by
 unfold Lo at h;split at h
 ·rename_i r hr;have Ar:=Gd ok hr;rcases ax h with⟨hd,h⟩|⟨hd,h⟩
  ·split at h
   ·rename_i q hq;cases h;rw[Dq] at hq;obtain⟨rfl,aK⟩:=Dn _ _ _ hq;refine⟨.agg ⟨(bC.drop o).take r.size⟩,?_,aj.nu ((hx.drop o).take r.size)⟩;have:(⟨bC⟩:a0x).extract o (o+r.size)=⟨(bC.drop o).take r.size⟩:=by
     apply Array.ext';simp[Array.toList_extract]
    simp[part,Ar,hd,dL ok hr,this]
   ·cases h
  ·rw[fK] at h;obtain⟨v',gz,gp⟩:=hx.get h;refine⟨v',?_,gp⟩;simp[part,Ar,hd,gz]
 ·cases h
def K4(E:au)(t:xN)(x:xM)(f:Nat):a0t:=
 match x,E.ti.get none t with
 | .agg ⟨cs⟩,some ⟨.struct ⟨fs⟩,_,_,_,_⟩=>match dP fs f with|some fd=>Lo E fd.type cs fd.offset|none=>none
 |_,_=>none
omit inv in
theorem aQ3{x v:xM}{f:Nat}(h:K4 E t x f=some v)(hx:aj β x x')(w:World):∃v',(Instr.field t x' f).run P w= .ok v' w/\aj β v v':=by
 unfold K4 at h;split at h
 ·rename_i cs fs _ _ _ _ hr;split at h
  ·rename_i fd m4;rw[fK] at m4;cases hx with
   |agg _ p' hp h1=>
    obtain⟨v',gz,gp⟩:=Yi ok h ⟨hp,h1⟩ w;refine⟨v',?_,gp⟩;have hu:=(ok.ti t _ hr).1;simp[Instr.field,run_underlying hu,m4,asAgg,gz]
  ·cases h
 ·cases h
def JD(E:au)(t:xN)(x:xM)(f:Nat):a0t:=
 match x,E.ti.get none t with
 | .iface B (.agg ⟨[iv,.int .i64 (.ofNat es),.int .i64 (.ofNat off)]⟩),some ⟨.struct ⟨fs⟩,_,_,_,_⟩=>
  match dP fs f with
  |some fd=>match E.ti.get none fd.type with
   |some r=>bs (Nat.beq r.size 0) none (some (.iface B (.agg ⟨[iv,.int .i64 (.ofNat es),.int .i64 (.ofNat (Nat.add off fd.offset))]⟩)))
   |none=>none
  |none=>none
 | .pointer (some ⟨B,o,none⟩),some ⟨.struct ⟨fs⟩,_,_,_,_⟩=>
  match dP fs f with
  |some fd=>match E.ti.get none fd.type with
   |some r=>bs (Nat.beq r.size 0) none (some (.pointer (some ⟨B,Nat.add o fd.offset,none⟩)))
   |none=>none
  |none=>none
 |_,_=>none
omit inv in
theorem ax1{x v:xM}{f:Nat}(h:JD E t x f=some v)(hx:aj β x x')(w:World):∃v',(Instr.fieldAt t x' f).run P w= .ok v' w/\aj β v v':=by
 unfold JD at h;split at h
 ·rename_i B iv es off fs _ _ _ _ hr;split at h
  ·rename_i fd m4;rw[fK] at m4;split at h
   ·rename_i r bu;rcases ax h with⟨_,h⟩|⟨hz,h⟩
    ·cases h
    ·cases h;rw[oQ] at hz;have tV: ¬r.size=0:=by simpa using hz
     cases hx with
     |qS _ _ _ m l _ k hl hi=>
      refine⟨.pointer (some ⟨l.b,l.d+(m*es+(off+fd.offset)),none⟩),?_,.qS B es (off+fd.offset) m l iv k hl hi⟩;have hu:=(ok.ti t _ hr).1;simp[Instr.fieldAt,run_underlying hu,m4,Instr.sureAddr,fieldPlace,dL ok bu,tV,Addr.add_lit,Nat.add_assoc]
   ·cases h
  ·cases h
 ·rename_i B o fs _ _ _ _ hr;split at h
  ·rename_i fd m4;rw[fK] at m4;split at h
   ·rename_i r bu;rcases ax h with⟨_,h⟩|⟨hz,h⟩
    ·cases h
    ·cases h;rw[oQ] at hz;have tV: ¬r.size=0:=by simpa using hz
     cases hx with
     |ptr _ _ l hl=>
      refine⟨.pointer (some ⟨l.b,l.d+(o+fd.offset),none⟩),?_,.ptr B (o+fd.offset) l hl⟩;have hu:=(ok.ti t _ hr).1;simp[Instr.fieldAt,run_underlying hu,m4,Instr.sureAddr,fieldPlace,dL ok bu,tV,Addr.add_lit,Nat.add_assoc]
   ·cases h
  ·cases h
 ·cases h
def H8(i:xM)(len:Nat):a0r:=
 match i with
 | .int _ (.ofNat m)=>bs (Nat.blt m len) (some m) none
 |_=>none
omit inv ok in
theorem PV{i:xM}{len m:Nat}(h:H8 i len=some m)(hi:aj β i i'):∃k,i'= .int k (m:Int)/\m<len:=by
 unfold H8 at h;split at h
 ·rename_i k q;rcases ax h with⟨hb,h⟩|⟨_,h⟩
  ·cases h;cases hi
   simp_all
  ·cases h
 ·cases h
def JC(E:au)(t:xN)(x i:xM):a0t:=
 match E.ti.get none t with
 |some ⟨.array len kX,_,_,_,_⟩=>
  match x,H8 i len,E.ti.get none kX with
  | .pointer (some ⟨B,o,none⟩),some m,some r=>some (.pointer (some ⟨B,Nat.add o (Nat.mul m r.size),none⟩))
  |_,_,_=>none
 |some ⟨.slice kX,_,_,_,_⟩=>
  match x with
  | .slice (some ⟨B,o,none⟩) len _=>
   match H8 i len,E.ti.get none kX with
   |some m,some r=>some (.pointer (some ⟨B,Nat.add o (Nat.mul m r.size),none⟩))
   |_,_=>none
  |_=>none
 |_=>none
omit inv in
theorem aw8{x i v:xM}(h:JC E t x i=some v)(hx:aj β x x')(hi:aj β i i')(w:World):∃v',(Instr.indexAt t x' i').run P w= .ok v' w/\aj β v v':=by
 unfold JC at h;split at h
 ·rename_i len kX _ _ _ _ hr;split at h
  ·rename_i B o m r hm bu;cases h;obtain⟨k,rfl,bk⟩:=PV hm hi;cases hx with
   |ptr _ _ l hl=>
    refine⟨.pointer (some ⟨l.b,l.d+(o+m*r.size),none⟩),?_,.ptr B (o+m*r.size) l hl⟩;have hu:=(ok.ti t _ hr).1;have h0:(0:Int)<=(m:Int)/\(m:Int)<(len:Int):=⟨a0B,a0B⟩;simp[Instr.indexAt,asIntOf,run_underlying hu,Instr.sureAddr,dL ok bu,Addr.add_lit,Nat.add_assoc,bk]
  ·cases h
 ·rename_i kX _ _ _ _ hr;split at h
  ·rename_i B o len c;split at h
   ·rename_i m r hm bu;cases h;obtain⟨k,rfl,bk⟩:=PV hm hi;have hu:=(ok.ti t _ hr).1;cases hx with
    |slice _ _ _ _ c' l hl hn hc he=>
     refine⟨.pointer (some ⟨l.b,l.d+(o+m*r.size),none⟩),?_,.ptr B (o+m*r.size) l hl⟩;simp[Instr.indexAt,asIntOf,run_underlying hu,dL ok bu,Addr.add_lit,Nat.add_assoc,bk]
    |empty=>omega
   ·cases h
  ·cases h
 ·cases h
def DZ(E:au)(t:xN)(x i:xM):a0t:=
 match E.ti.get none t with
 |some ⟨.array len kX,_,_,_,_⟩=>
  match x,H8 i len,E.ti.get none kX with
  | .agg ⟨cs⟩,some m,some r=>Lo E kX cs (Nat.mul m r.size)
  |_,_,_=>none
 |some ⟨.string,_,_,_,_⟩=>
  match x,i with
  | .string ⟨⟨l⟩⟩,.int _ (.ofNat m)=>match dP l m with|some b=>some (.int .u8 (.ofNat b.toNat))|none=>none
  |_,_=>none
 |_=>none
omit inv in
theorem Dt{x i v:xM}(h:DZ E t x i=some v)(hx:aj β x x')(hi:aj β i i')(w:World):∃v',(Instr.index t x' i').run P w= .ok v' w/\aj β v v':=by
 unfold DZ at h;split at h
 ·rename_i len kX _ _ _ _ hr;split at h
  ·rename_i cs m r hm bu;obtain⟨k,rfl,bk⟩:=PV hm hi;have hu:=(ok.ti t _ hr).1;cases hx with
   |agg _ p' hp h1=>
    obtain⟨v',gz,gp⟩:=Yi ok h ⟨hp,h1⟩ w;refine⟨v',?_,gp⟩;have dK:(part kX ⟨p'⟩ (m*r.size)).run P w= .ok v' w:=gz;simp[Instr.index,asIntOf,run_underlying hu,dL ok bu,bk,dK]
  ·cases h
 ·rename_i _ _ _ _ hr;split at h
  ·rename_i l k m;split at h
   ·rename_i b hb;cases h;rw[fK] at hb;have hu:=(ok.ti t _ hr).1;cases hx;cases hi;refine⟨_,?_,.int .u8 b.toNat⟩;have hs:(⟨⟨l⟩⟩:ByteArray)[m]? =some b:=by
     have bk:=(xe.1 hb).1;have aS:m<(⟨⟨l⟩⟩:ByteArray).size:=bk;rw[getElem?_pos (⟨⟨l⟩⟩:ByteArray) m aS]
     congr 1
     exact(xe.1 hb).2
    simp[Instr.index,asIntOf,run_underlying hu,hs]
   ·cases h
  ·cases h
 ·cases h
def J1(x:xM)(i:Nat):a0t:=match x with| .tuple ⟨l⟩=>dP l i|_=>none
omit inv ok in
theorem aC2{x v:xM}{i:Nat}(h:J1 x i=some v)(hx:aj β x x')(P:Program)(w:World):∃v',(Instr.extract x' i).run P w= .ok v' w/\aj β v v':=by
 unfold J1 at h;split at h
 ·rw[fK] at h;cases hx with
  |tuple _ p' hp h1=>
   obtain⟨v',gz,gp⟩:=aX.get ⟨hp,h1⟩ h;exact⟨v',by simp[Instr.extract,gz],gp⟩
 ·cases h
def Cq(op:UnOp)(x:xM):a0t:=
 match op,x with
 | .neg,.int k n=>some (.int k (gG k (Int.sub 0 n)))
 | .xor,.int k n=>bs k.signed none ((n8 .xor k (.ofNat (Nat.sub (mk k) 1)) n).map (.int k))
 | .not,.bool b=>some (.bool (not b))
 |_,_=>none
omit inv ok in
theorem Le{op:UnOp}{x v:xM}(h:Cq op x=some v)(hx:aj β x x')(P:Program)(w:World):∃v',(Op.unary op x').run P w= .ok v' w/\aj β v v':=by
 unfold Cq at h;split at h
 ·cases h;cases hx;refine⟨_,?_,.int _ _⟩;rw[lW];simp only [Op.unary,Op.intArith];rfl
 ·rename_i k n;cases hx;rcases ax h with⟨_,h⟩|⟨hs,h⟩
  ·cases h
  ·obtain⟨r,hr,rfl⟩:=xp.1 h;refine⟨_,?_,.int k r⟩;have Ic:k.max=Int.ofNat (Nat.sub (mk k) 1):=by cases k<;>first|rfl|(exact absurd hs a0I)
   simp only [Op.unary,hs,Bool.false_eq_true,if_false,Ic]
   grind [Kl]
 ·cases h;cases hx;exact⟨_,rfl,.bool _⟩
 ·cases h
end
end
end Go.Ex
