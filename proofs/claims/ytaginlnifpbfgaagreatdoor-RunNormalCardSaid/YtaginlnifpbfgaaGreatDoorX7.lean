/- A verified evaluator of Go functions. -/
import Derived.Test.YtaginlnifpbfgaaGreatDoorX6
import Derived.OrdersIn
import Derived.TacticsIn
import Derived.RangeFuncRecord
import Derived.Orders
set_option linter.unusedVariables false
set_option linter.unusedSimpArgs false
namespace Go.Ex
open Go.RowKit
noncomputable section
def T.k9{α:Type}{ρ:Type}(t:T α):Nat→α→(T α→ρ)→ρ:=
 T.rec (motive:=fun _=>Nat→α→(T α→ρ)→ρ) (fun _ _ k=>k .nil)
  (fun l v r sl sr n x k=>Nat.rec (motive:=fun _=>ρ) (k (.node l x r)) (fun p _=>Nat.rec (motive:=fun _=>ρ) (sl (Nat.div p 2) x (fun l'=>k (.node l' v r))) (fun _ _=>sr (Nat.div p 2) x (fun r'=>k (.node l v r'))) (Nat.mod p 2)) n) t
theorem T.JO{α ρ:Type}(t:T α):∀(n:Nat) (x:α) (k:T α→ρ),t.k9 n x k=k (t.set n x):=by
 induction t with
 |nil=>intro n x k;rfl
 |node l v r hl hr=>
  intro n x k;cases n with
  |zero=>rfl
  |succ p=>
   show Nat.rec (motive:=fun _=>ρ) (l.k9 (p/2) x (fun l'=>k (.node l' v r))) (fun _ _=>r.k9 (p/2) x (fun r'=>k (.node l v r'))) (Nat.mod p 2)=
    k (Nat.rec (motive:=fun _=>T α) (.node (l.set (p/2) x) v r) (fun _ _=> .node l v (r.set (p/2) x)) (Nat.mod p 2))
   rw[hl,hr,mO,mO];split<;>rfl
def DH{ρ:Type}(n:Nat)(k:Nat→ρ):ρ:=Nat.rec (motive:=fun _=>ρ) (k 0) (fun p _=>k (Nat.succ p)) n
theorem Jr{ρ:Type}(n:Nat)(k:Nat→ρ):DH n k=k n:=by cases n<;>rfl
def zg{ρ:Type}(v:xM)(k:xM→ρ):ρ:=
 DO (ρ:=(xM→ρ)→ρ) (fun b _ k=>bs b (k (.bool true)) (k (.bool false)))
  (fun kd n _ k=>Int.rec (motive:=fun _=>ρ) (fun m=>DH m (fun m=>k (.int kd (.ofNat m)))) (fun m=>DH m (fun m=>k (.int kd (.negSucc m)))) n)
  (fun _ v k=>k v) (fun _ v k=>k v) (fun _ _ _ v k=>k v) (fun _ v k=>k v) (fun v k=>k v) v v k
theorem F'{ρ:Type}(v:xM)(k:xM→ρ):zg v k=k v:=by
 cases v with
 |bool b=>cases b<;>rfl
 |int kd n=>
  cases n with
  |ofNat m=>exact Jr m (fun m=>k (.int kd (.ofNat m)))
  |negSucc m=>exact Jr m (fun m=>k (.int kd (.negSucc m)))
 |_=>rfl
def tJ{ρ:Type}(A:AW)(k:AW→ρ):ρ:=match A with|⟨h,n,tp⟩=>DH n (fun n=>match h with| .nil=>k ⟨.nil,n,tp⟩| .node a b c=>k ⟨.node a b c,n,tp⟩)
theorem yX{ρ:Type}(A:AW)(k:AW→ρ):tJ A k=k A:=by
 obtain⟨h,n,tp⟩:=A;unfold tJ;simp only [Jr];cases h<;>rfl
abbrev aZ(α:Type):=Option (List (α×AW))
def Ru{α γ:Type}(f:α→Option (List γ))(l:List α):Option (List γ):=
 List.rec (motive:=fun _=>Option (List γ)) (some []) (fun a _ ih=>match f a with|none=>none|some r=>match ih with|none=>none|some q=>some (aa r q)) l
def kI{α γ:Type}(x:Option (List α))(f:α→Option (List γ)):Option (List γ):=
 match x with
 |none=>none
 |some [a]=>f a
 |some l=>Ru f l
theorem VD{α γ:Type}{f:α→Option (List γ)}:∀{l:List α} {q:List γ},Ru f l=some q→∀a∈l,∃r,f a=some r∧∀c∈r,c∈q
 |[],_,_,a,ha=>by cases ha
 |b::l,q,h,a,ha=>by
  have h':(match f b with|none=>none|some r=>match Ru f l with|none=>none|some q=>some (aa r q))=some q:=h;clear h;split at h'
  ·cases h'
  ·rename_i r hr;split at h'
   ·cases h'
   ·rename_i q2 ry;cases h';cases ha with
    |head=>exact⟨r,hr,fun c hc=>by rw[jm];exact List.mem_append_left _ hc⟩
    |tail _ ha=>
     obtain⟨r2,h1,h2⟩:=VD ry a ha;exact⟨r2,h1,fun c hc=>by rw[jm];exact List.mem_append_right _ (h2 c hc)⟩
theorem we{α γ:Type}{x:Option (List α)}{f:α→Option (List γ)}{q:List γ}(h:kI x f=some q):∃l,x=some l∧∀a∈l,∃r,f a=some r∧∀c∈r,c∈q:=by
 unfold kI at h;split at h
 ·cases h
 ·rename_i a;exact⟨[a],rfl,fun b hb=>by simp at hb;subst hb;exact⟨q,h,fun c hc=>hc⟩⟩
 ·rename_i l _;exact⟨l,rfl,VD h⟩
def qV{γ:Type}(n:Nat)(fr:Fr)(dst:Option Tmp)(v:xM)(k:Fr→Option (List γ)):Option (List γ):=
 Option.rec (motive:=fun _=>Nat→Fr→xM→(Fr→Option (List γ))→Option (List γ)) (fun _ fr _ k=>k fr)
  (fun d n fr v k=>Bool.rec (motive:=fun _=>Option (List γ)) none (zg v (fun v=>fr.k9 d v k)) (Nat.ble (Nat.succ d) n)) dst n fr v k
def qb(ops:List Oper)(fr:Gt)(o:Oper):Option Bool:=
 match o.guard with
 |none=>some true
 |some (j,want)=>match dB ops j with
  |some g=>match g.dst with
   |some t=>match fr t with
    | .bool b=>some (bs b want (not want))
    | .chan _=>none
    |_=>some false
   |none=>some false
  |none=>some false
abbrev Ig:=(cT→List xM→AW→aZ xM)→Nat→Oper→(Fr→AW→aZ Fr)→Fr→AW→aZ Fr
def cT6(r:R):Ig:=
 R.rec (motive:=fun _=>Ig)
  (fun _ _ _ _ _ _=>none)
  (fun v A' _ n o ih fr _=>qV n fr o.dst v (fun fr=>tJ A' (fun A'=>ih fr A')))
  (fun f args call n o ih fr A=>kI (call f args A) (fun p=>qV n fr o.dst p.1 (fun fr=>ih fr p.2)))
  (fun q _ n o ih fr _=>kI (some q) (fun p=>qV n fr o.dst p.1 (fun fr=>ih fr p.2))) r
def aE7(w:Option Bool):R→Ig:=
 Option.rec (motive:=fun _=>R→Ig) (fun _ _ _ _ _ _ _=>none)
  (Bool.rec (motive:=fun _=>R→Ig) (fun _ _ n o ih fr A=>qV n fr o.dst undef (fun fr=>ih fr A)) cT6) w
theorem bh9(w:Option Bool)(r:R)(call:cT→List xM→AW→aZ xM)(n:Nat)(o:Oper)(ih:Fr→AW→aZ Fr)(fr:Fr)(A:AW):aE7 w r call n o ih fr A=match w with
 |none=>none
 |some false=>qV n fr o.dst undef (fun fr=>ih fr A)
 |some true=>match r with
  | .fail=>none
  | .val v A'=>qV n fr o.dst v (fun fr=>tJ A' (fun A'=>ih fr A'))
  | .call f args=>kI (call f args A) (fun p=>qV n fr o.dst p.1 (fun fr=>ih fr p.2))
  | .nd q=>kI (some q) (fun p=>qV n fr o.dst p.1 (fun fr=>ih fr p.2)):=by
 cases w with
 |none=>rfl
 |some b=>
  cases b with
  |false=>rfl
  |true=>cases r<;>rfl
section
variable(E:aq)(sq:List (Nat×List xO))(call:cT→List xM→AW→aZ xM)(n:Nat)
def vq(ops:List Oper)(l:List Oper):Fr→AW→aZ Fr:=
 List.rec (motive:=fun _=>Fr→AW→aZ Fr) (fun fr A=>some [(fr,A)])
  (fun o _ ih fr A=>aE7 (qb ops (fr.get J) o) (ju E sq A (fr.get J) o.op) call n o ih fr A) l
def Qq(ms:List Nat):AW→Option AW:=
 List.rec (motive:=fun _=>AW→Option AW) (fun A=>some A) (fun D _ ih A=>match A.get D with
  |some ⟨.yL,_,_,_,_⟩=>bs (Nat.ble E.G.n D) (ih (A.put D none)) none
  |_=>none) ms
def YI(j:Option Code):Uw:=match j with|none=> .ready|some j=> .done j
def Ki(j:Uw)(L:Nat)(fr:Fr)(A:AW):aZ Fr:=
 match A.get L with
 |some ⟨.loop .busy t m ps a b,es,ex,r,ty⟩=>bs (Nat.ble E.G.n L) (some [(fr,A.put L (some ⟨.loop j t m ps a b,es,ex,r,ty⟩))]) none
 |_=>none
def E4(ro:Option Nat)(ms:List Nat)(fr:Fr)(A:AW):aZ Fr:=
 match ro with
 |none=>match Qq E ms A with
  |some A'=>some [(fr,A')]
  |none=>none
 |some L=>Ki E .ready L fr A
def zR(ro:Option Nat)(j:Code)(fr:Fr)(A:AW):aZ Fr:=
 match ro with
 |none=>none
 |some L=>Ki E (.done j) L fr A
def PU(ih:List Nat→List Item→Fr→AW→aZ Fr)(ms:List Nat)(f:Operand)(ps:List Nat)(a b:Code)(k:List Item)(fr:Fr)(A:AW):aZ Fr:=
 match zY E A (ev E (fr.get J) f) [.func (.yield (Nat.add A.next 1)) ⟨[]⟩ ⟨[]⟩] with
 | .call (.fn g) args=>bs (Nat.ble E.G.n A.next) (kI (call (.fn g) args ((A.add ⟨.yL,0,true,false,0⟩).add ⟨.loop .ready fr n ps a b,0,true,false,0⟩)) (fun p=>
  match p.2.get (Nat.add A.next 1) with
  |some ⟨.loop .ready _ _ _ _ _,_,_,_,_⟩=>ih (A.next::ms) k fr (p.2.put (Nat.add A.next 1) none)
  |some ⟨.loop (.done j) _ _ _ _ _,_,_,_,_⟩=>ih (A.next::ms) (.code j::k) fr (p.2.put (Nat.add A.next 1) none)
  |_=>none)) none
 |_=>none
def XY(bL:List Oper→Fr→AW→aZ Fr)(ro:Option Nat)(ih:List Nat→List Item→Fr→AW→aZ Fr)(ms:List Nat)(ep:List Item)(fr:Fr)(A:AW):aZ Fr:=
 match ep with
 |[]=>E4 E ro ms fr A
 | .code .ret::_=>match ro with|none=>E4 E none ms fr A|some L=>zR E (some L) .ret fr A
 | .code .skip::k=>ih ms k fr A
 | .code (.label _)::k=>ih ms k fr A
 | .code (.seq a b)::k=>ih ms (.code a:: .code b::k) fr A
 | .code (.cond c x y)::k=>match ev E (fr.get J) c with
  | .bool b=>ih ms (.code (bs b x y)::k) fr A
  |_=>none
 | .code (.block id c)::k=>ih ms (.code c:: .inBlock id::k) fr A
 | .code (.loop c)::k=>ih ms (.code c:: .inLoop c::k) fr A
 | .code (.scope c)::k=>ih ms (.code c:: .inScope c::k) fr A
 | .code (.exit id)::k=>match exitTo id k with|some k'=>ih ms k' fr A|none=>zR E ro (.exit id) fr A
 | .code (.goto l)::k=>match gotoIn l k with|some k'=>ih ms k' fr A|none=>zR E ro (.goto l) fr A
 | .code (.region _ ⟨ops⟩ false)::k=>kI (vq E sq call n ops ops fr A) (fun p=>ih ms k p.1 p.2)
 | .code (.region _ ⟨ops⟩ true)::k=>kI (bL ops fr A) (fun p=>ih ms k p.1 p.2)
 | .code (.rangeFunc f ⟨ps⟩ a b)::k=>match ro with|none=>PU E call n ih ms f ps a b k fr A|some _=>none
 | .beginRound::k=>match ro with
  |none=>none
  |some L=>match A.get L with
   |some ⟨.loop .ready t m ps a b,es,ex,r,ty⟩=>bs (Nat.ble E.G.n L) (ih ms k fr (A.put L (some ⟨.loop .busy t m ps a b,es,ex,r,ty⟩))) none
   |_=>none
 | .inBlock _::k=>ih ms k fr A
 | .inScope _::k=>ih ms k fr A
 | .inLoop c::k=>ih ms (.code c:: .inLoop c::k) fr A
 |_=>none
abbrev LB:=List Item→aq→List (Nat×List xO)→(cT→List xM→AW→aZ xM)→Nat→(List Oper→Fr→AW→aZ Fr)→Option Nat→(List Nat→List Item→Fr→AW→aZ Fr)→List Nat→Fr→AW→aZ Fr
def bB8(E:aq)(ro:Option Nat)(ih:List Nat→List Item→Fr→AW→aZ Fr)(ms:List Nat)(k:List Item)(fr:Fr)(A:AW):aZ Fr:=
 match ro with
  |none=>none
  |some L=>match A.get L with
   |some ⟨.loop .ready t m ps a b,es,ex,r,ty⟩=>bs (Nat.ble E.G.n L) (ih ms k fr (A.put L (some ⟨.loop .busy t m ps a b,es,ex,r,ty⟩))) none
   |_=>none
def cp3(c:Code):LB:=
 Code.rec (motive:=fun _=>LB)
  (fun k _ _ _ _ _ _ ih ms fr A=>ih ms k fr A)
  (fun _ ops dr k E sq call n bL _ ih ms fr A=>bs dr (kI (bL ops.toList fr A) (fun p=>ih ms k p.1 p.2)) (kI (vq E sq call n ops.toList ops.toList fr A) (fun p=>ih ms k p.1 p.2)))
  (fun a b _ _ k _ _ _ _ _ _ ih ms fr A=>ih ms (.code a:: .code b::k) fr A)
  (fun c x y _ _ k E _ _ _ _ _ ih ms fr A=>match ev E (fr.get J) c with| .bool b=>ih ms (.code (bs b x y)::k) fr A|_=>none)
  (fun id c _ k _ _ _ _ _ _ ih ms fr A=>ih ms (.code c:: .inBlock id::k) fr A)
  (fun c _ k _ _ _ _ _ _ ih ms fr A=>ih ms (.code c:: .inLoop c::k) fr A)
  (fun f ps a b _ _ k E _ call n _ ro ih ms fr A=>match ro with|none=>PU E call n ih ms f ps.toList a b k fr A|some _=>none)
  (fun id k E _ _ _ _ ro ih ms fr A=>match exitTo id k with|some k'=>ih ms k' fr A|none=>zR E ro (.exit id) fr A)
  (fun c _ k _ _ _ _ _ _ ih ms fr A=>ih ms (.code c:: .inScope c::k) fr A)
  (fun _ k _ _ _ _ _ _ ih ms fr A=>ih ms k fr A)
  (fun l k E _ _ _ _ ro ih ms fr A=>match gotoIn l k with|some k'=>ih ms k' fr A|none=>zR E ro (.goto l) fr A)
  (fun _ E _ _ _ _ ro _ ms fr A=>match ro with|none=>E4 E none ms fr A|some L=>zR E (some L) .ret fr A)
  (fun _ _ _ _ _ _ _ _ _ _ _ _=>none) c
def bR3(i:Item):LB:=
 Item.rec (motive:=fun _=>LB)
  (fun c=>cp3 c)
  (fun _ k _ _ _ _ _ _ ih ms fr A=>ih ms k fr A)
  (fun c k _ _ _ _ _ _ ih ms fr A=>ih ms (.code c:: .inLoop c::k) fr A)
  (fun _ k _ _ _ _ _ _ ih ms fr A=>ih ms k fr A)
  (fun _ _ _ _ _ _ _ _ _ _ _ _ _=>none)
  (fun _ _ _ _ _ _ _ _ _ _ _ _=>none)
  (fun _ _ _ _ _ _ _ _ _ _ _ _=>none)
  (fun k E _ _ _ _ ro ih ms fr A=>bB8 E ro ih ms k fr A)
  (fun _ _ _ _ _ _ _ _ _ _ _ _ _ _ _=>none)
  (fun _ _ _ _ _ _ _ _ _ _ _ _ _=>none) i
def Qs(bL:List Oper→Fr→AW→aZ Fr)(ro:Option Nat)(ih:List Nat→List Item→Fr→AW→aZ Fr)(ms:List Nat)(ep:List Item)(fr:Fr)(A:AW):aZ Fr:=
 List.rec (motive:=fun _=>aq→List (Nat×List xO)→(cT→List xM→AW→aZ xM)→Nat→(List Oper→Fr→AW→aZ Fr)→Option Nat→(List Nat→List Item→Fr→AW→aZ Fr)→List Nat→Fr→AW→aZ Fr)
  (fun E _ _ _ _ ro _ ms fr A=>E4 E ro ms fr A) (fun i k _=>bR3 i k) ep E sq call n bL ro ih ms fr A
theorem aU3(bL:List Oper→Fr→AW→aZ Fr)(ro:Option Nat)(ih:List Nat→List Item→Fr→AW→aZ Fr)(ms:List Nat)(ep:List Item)(fr:Fr)(A:AW):Qs E sq call n bL ro ih ms ep fr A=XY E sq call n bL ro ih ms ep fr A:=by
 cases ep with
 |nil=>rfl
 |cons i k=>
  cases i with
  |code c=>
   cases c with
   |region id ops dr=>obtain⟨ops⟩:=ops;cases dr<;>rfl
   |rangeFunc f ps a b=>obtain⟨ps⟩:=ps;rfl
   |_=>rfl
  |_=>rfl
def x5(bL:List Oper→Fr→AW→aZ Fr)(ro:Option Nat)(aN:Nat):List Nat→List Item→Fr→AW→aZ Fr:=
 Nat.rec (motive:=fun _=>List Nat→List Item→Fr→AW→aZ Fr) (fun _ _ _ _=>none) (fun _ ih=>Qs E sq call n bL ro ih) aN
end
def LA{ρ:Type}(l:List xM):Nat→Fr→(Fr→ρ)→ρ:=
 List.rec (motive:=fun _=>Nat→Fr→(Fr→ρ)→ρ) (fun _ fr k=>k fr) (fun v _ ih i fr k=>fr.k9 i v (fun fr=>ih (Nat.add i 1) fr k)) l
def RK(E:aq)(fr:Fr)(A:AW)(l:List ResultVar):Option (List xM):=
 List.rec (motive:=fun _=>Option (List xM)) (some [])
  (fun r _ ih=>match(match r with| .tmp t=>some (fr.get J t)| .cell a t=>zq E A t (fr.get J a)),ih with
   |some v,some vs=>some (v::vs)
   |_,_=>none) l
def HM(E:aq)(fr:Fr)(A:AW)(l:List ResultVar):Option xM:=
 match RK E fr A l with
 |some [v]=>some v
 |some vs=>some (.tuple ⟨vs⟩)
 |none=>none
def KL{ρ:Type}(ps:List Nat):List xM→Fr→(Fr→ρ)→ρ:=
 List.rec (motive:=fun _=>List xM→Fr→(Fr→ρ)→ρ) (fun _ fr k=>k fr) (fun t _ ih args fr k=>match args with
  |[]=>k fr
  |v::vs=>fr.k9 t v (fun fr=>ih vs fr k)) ps
def PT(L:Nat)(A:AW):aZ xM:=
 match A.get L with
 |some ⟨.loop .ready _ _ _ _ _,_,_,_,_⟩=>some [(.bool true,A)]
 |some ⟨.loop (.done _) _ _ _ _ _,_,_,_,_⟩=>some [(.bool false,A)]
 |_=>none
def qS(E:aq)(sq:List (Nat×List xO))(bL:(cT→List xM→AW→aZ xM)→Nat→List Oper→Fr→AW→aZ Fr)(dL:cT→List xM→AW→aZ xM)(aN depth:Nat):cT→List xM→AW→aZ xM:=
 Nat.rec (motive:=fun _=>cT→List xM→AW→aZ xM) (fun _ _ _=>none)
  (fun _ ih t args A=>match dL t args A with
   |some o=>some o
   |none=>match t with
   | .fn f=>match E.fn.get none f with
    |some ⟨_,_,_,_,_,_,nt,⟨rs⟩,some c,_,_,_,_,_,_,_⟩=>
     bs (Nat.ble (bI args) nt) (LA args 0 (T.full undef (Nat.add (Nat.log2 (Nat.add nt 1)) 1)) (fun fr=>
      kI (x5 E sq ih nt (bL ih nt) none aN [] [.code c] fr A) (fun p=>match HM E p.1 p.2 rs with|some v=>some [(v,p.2)]|none=>none))) none
    |_=>none
   | .rd L=>match A.get L with
    |some ⟨.loop .ready fr n ps a b,_,_,_,_⟩=>
     bs (Nat.beq (bI args) (bI ps)&&ey (fun t=>Nat.blt t n) ps) (KL ps args fr (fun fr=>
      kI (x5 E sq ih n (bL ih n) (some L) aN [] [.code a,.beginRound,.code b] fr A) (fun p=>PT L p.2))) none
    |_=>none
   | .dy _=>none) depth
section
variable{α:Type}
def alt(l:List α):Bool→List α:=
 List.rec (motive:=fun _=>Bool→List α) (fun _=>[]) (fun a _ ih b=>bs b (a::ih false) (ih true)) l
def Av(k:Nat):List α→T (Option α):=
 Nat.rec (motive:=fun _=>List α→T (Option α)) (fun _=> .nil) (fun _ ih l=>List.rec (motive:=fun _=>T (Option α)) .nil (fun a r _=> .node (ih (alt r true)) (some a) (ih (alt r false))) l) k
theorem Dm(l:List α):∀(b:Bool) (m:Nat),(alt l b)[m]? =l[2*m+(if b then 0 else 1)]? :=by
 induction l with
 |nil=>intro b m;simp[alt]
 |cons a l ih=>
  intro b m;cases b with
  |true=>
   show(a::alt l false)[m]? =_;cases m with
   |zero=>simp
   |succ m=>rw[List.getElem?_cons_succ,ih false m,if_pos rfl,Nat.add_zero,show 2*(m+1)=(2*m+1)+1 by omega,List.getElem?_cons_succ];simp
  |false=>
   show(alt l true)[m]? =_;rw[ih true m];simp
theorem Gi:∀(k:Nat) (l:List α) (i:Nat) (x:α),(Av k l).get none i=some x→l[i]? =some x
 |0,l,i,x,h=>by cases h
 |k+1,[],i,x,h=>by cases h
 |k+1,a::r,i,x,h=>by
  have h':(T.node (Av k (alt r true)) (some a) (Av k (alt r false))).get none i=some x:=h;rw[T.jT] at h';split at h'
  ·rename_i h0;subst h0;simpa using h'
  ·split at h'
   ·have:=Gi k _ _ _ h';rw[Dm] at this;rw[show i=2*(i/2)+1 by omega,List.getElem?_cons_succ];simpa using this
   ·have:=Gi k _ _ _ h';rw[Dm] at this;rw[show i=(2*(i/2 - 1)+1)+1 by omega,List.getElem?_cons_succ];simpa using this
end
def RI(ts:List TypeInfo)(d:TypeDesc):Option TypeDesc:=
 match d with
 | .named _ u=>match dB ts u with|some i=>some i.desc|none=>none
 |d=>some d
def EB(d:TypeDesc)(z:Option xM):List xM×Bool:=
 match z with
 |some (.agg ⟨l⟩)=>bs (m5 d) (l,true) ([],false)
 |some (.tuple _)=>([],false)
 |some v=>bs (m5 d) ([],false) ([v],true)
 |none=>([],false)
def KK(ts:List TypeInfo)(i:TypeInfo):Option Row:=
 match RI ts i.desc with
 |some d=>some ⟨d,i.size,i.bytes,(EB d i.zero).1,(EB d i.zero).2⟩
 |none=>none
def join(t:T (Option (Option Row))):T (Option Row):=
 T.rec (motive:=fun _=>T (Option Row)) .nil (fun _ v _ l r=> .node l (match v with|some x=>x|none=>none) r) t
def QD(P:Program)(G:GP)(ne:List Nat)(lay:List (Nat×Nat×Nat))(ib:List Nat:=[])(mz:List (Nat×Nat):=[]):aq where
 ti:=join (Av 11 (ew (KK P.types.toList) P.types.toList))
 fn:=Av 10 P.funcs.toList
 ne:=ne
 ib:=ib
 mz:=mz
 lay:=lay
 G:=G
abbrev jY(ro:Option Nat):Fence:={Fence.wide with round:=ro}
theorem Yu(ro:Option Nat)(n:Nat):(jY ro).room n:=fun _ h=>by simp[Fence.wide] at h
theorem XN{ro:Option Nat}{n:Nat}{P:Program}{f:FuncId}{args:Array xM}{w:World}{R:Ending→World→Prop}(h:Calls P f args w R):CallsIn (jY ro) n P f args w R:=
 (callsIn_wide.2 h:CallsIn Fence.wide n P f args w R)
theorem bm5{ro:Option Nat}{n:Nat}{P:Program}{l:Nat}{f:FuncId}{tmps:Array xM}{a b:Code}{w:World}{R:Ending→World→Prop}(h:RoundIn Fence.wide n P l f tmps a b w R):RoundIn (jY ro) n P l f tmps a b w R:=h
def qk(w0:World)(G:GP)(n:Nat)(β:af)(A:AW)(ds:List Deferred)(bj:List (Fr×AW))(a':Act)(w':World):Prop:=
 ∃p∈bj,∃ah,cf ah n (p.1.get J) a'.tmps∧Inv w0 G ah p.2 w'∧β.grow ah A.next∧A.next≤p.2.next∧a'.defers=ds
def Rw(w0:World)(G:GP)(β:af)(A:AW)(bj:List (xM×AW))(e:Ending)(w':World):Prop:=
 ∃p∈bj,∃ah v',e= .returned v'∧ai ah p.1 v'∧Inv w0 G ah p.2 w'∧β.grow ah A.next∧A.next≤p.2.next
def fG(P:Program)(E:aq)(call:cT→List xM→AW→aZ xM):Prop:=
 ∀w0 t args A bj β w args',call t args A=some bj→Inv w0 E.G β A w→aP β args args'→
  match t with
  | .fn f=>Calls P f ⟨args'⟩ w (Rw w0 E.G β A bj)
  | .dy v=>∀f',ai β v f'→∃g p q fn c,f'= .func (.func g) ⟨p⟩ ⟨q⟩∧P.funcs[g]? =some fn∧fn.body=some c∧ ¬fn.name= "runtime.NumGoroutine"∧Calls P g ⟨p++args'++q⟩ w (Rw w0 E.G β A bj)
  | .rd L=>∀l,β L=some l→∃f tmps a b,(Instr.yield l.b ⟨args'⟩).run P w= .ok (.round l.b f tmps a b) w∧RoundIn Fence.wide 0 P l.b f tmps a b w (Rw w0 E.G β A bj)
def vc(P:Program)(E:aq)(n:Nat)(bL:List Oper→Fr→AW→aZ Fr):Prop:=
 ∀ro w0 ops fr A bj β a w id,bL ops fr A=some bj→cf β n (fr.get J) a.tmps→Inv w0 E.G β A w→
  (Code.region id ⟨ops⟩ true).wpIn (jY ro) 0 P (fun e a' w'=>e= .normal∧qk w0 E.G n β A a.defers bj a' w') a w
theorem qk.mono{w0:World}{G:GP}{n:Nat}{β aI:af}{A A1:AW}{ds:List Deferred}{bj G':List (Fr×AW)}{a':Act}{w':World}(h:qk w0 G n aI A1 ds G' a' w')(hg:β.grow aI A.next)(hn:A.next≤A1.next)(Ss:∀c∈G',c∈bj):qk w0 G n β A ds bj a' w':=by
 obtain⟨p,hp,ah,h1,h2,h3,h4,h5⟩:=h;exact⟨p,Ss p hp,ah,h1,h2,af.iZ hg h3 hn,xH hn h4,h5⟩
theorem Gf{ops:List Oper}{fr:Gt}{o:Oper}{b:Bool}{β:af}{n:Nat}{a:Act}(h:qb ops fr o=some b)(hf:cf β n fr a.tmps):Region.wanted o (yielded ⟨ops⟩ a.tmps)=b:=by
 unfold qb at h;unfold Region.wanted;split at h
 ·rename_i hg;cases h;rw[hg]
 ·rename_i j want hg;rw[hg];simp only;have hy:∀t,((ops[j]?).bind (·.dst))=some t→yielded ⟨ops⟩ a.tmps j=match a.tmps[t]? with|some (.bool b)=>some b|_=>none:=fun t ht=>by
   unfold yielded;have:(((⟨ops⟩:Array Oper)[j]?).bind (·.dst))=some t:=by simpa using ht
   rw[this];rfl
  have hn:((ops[j]?).bind (·.dst))=none→yielded ⟨ops⟩ a.tmps j=none:=fun ht=>by
   unfold yielded;have:(((⟨ops⟩:Array Oper)[j]?).bind (·.dst))=none:=by simpa using ht
   rw[this];rfl
  rw[eM] at h;split at h
  ·rename_i g Nr;split at h
   ·rename_i t ht;have e:=hy t (by rw[Nr];exact ht);rw[e];have hv:=hf.2 t;cases hc:a.tmps[t]? with
    |none=>
     have hd:a.tmps.getD t undef=undef:=by simp[hc]
     rw[hd] at hv;split at h
     ·rename_i hb;rw[hb] at hv;cases hv
     ·cases h
     ·cases h;rfl
    |some x=>
     have hd:a.tmps.getD t undef=x:=by simp[hc]
     rw[hd] at hv;split at h
     ·rename_i b0 hb;rw[hb] at hv;cases hv;cases h;cases b0<;>cases want<;>rfl
     ·cases h
     ·rename_i o7 Nm;cases h;cases hx:x with
      |bool b0=>
       rw[hx] at hv;generalize fr t=y at*;cases hv with
       |kL=>exact absurd rfl (Nm _)
       |sym=>exact absurd rfl (Nm _)
       |bool=>exact absurd rfl (o7 _)
      |_=>rfl
   ·rename_i ht;cases h;rw[hn (by rw[Nr];exact ht)];rfl
  ·rename_i Nr;cases h;rw[hn (by rw[Nr];rfl)];rfl
theorem OF{E:aq}{sq:List (Nat×List xO)}{A:AW}{g:Gt}{o:Oper}{r:R}(h:ju E sq A g o.op=r)(hr:r≠ .fail)(ro:Option Nat)(ρ:Operand→xM):Oper.semAt ro ρ o=execOp ρ o:=
 Oper.semAt_eq ro ρ o (fun c hc=>hr (by
  rw[←h,hc];unfold ju;split
  ·rfl
  ·unfold xZ;split<;>rfl))
theorem Oh{E:aq}{sq:List (Nat×List xO)}{A:AW}{g:Gt}{o:Oper}{r:R}(h:aF E sq A g o.op=r)(hr:r≠ .fail)(ro:Option Nat)(ρ:Operand→xM):Oper.semAt ro ρ o=execOp ρ o:=
 Oper.semAt_eq ro ρ o (fun c hc=>hr (by rw[←h,hc];rfl))
theorem aO6{E:aq}{sq:List (Nat×List xO)}{A:AW}{g:Gt}{o:Oper}{nd:Node}{v:xM}(h:pF E sq A g o.op nd=some v)(ro:Option Nat)(ρ:Operand→xM):Oper.semAt ro ρ o=execOp ρ o:=
 Oper.semAt_eq ro ρ o (fun c hc=>by rw[hc] at h;cases h)
section
variable{P:Program}{E:aq}(ok:E.Ok P){sq:List (Nat×List xO)}(ba:E.Seq P sq){w0:World}
theorem JT{γ:Type}{n:Nat}{fr:Fr}{dst:Option Tmp}{v v':xM}{k:Fr→Option (List γ)}{bj:List γ}{β:af}{a:Act}(h:qV n fr dst v k=some bj)(hf:cf β n (fr.get J) a.tmps)(hv:ai β v v'):
 ∃cY,k cY=some bj∧cf β n (cY.get J) (a.put dst v').tmps∧(a.put dst v').defers=a.defers:=by
 cases dst with
 |none=>exact⟨fr,h,hf,rfl⟩
 |some d=>
  have h':Bool.rec (motive:=fun _=>Option (List γ)) none (zg v (fun v=>fr.k9 d v k)) (Nat.ble (Nat.succ d) n)=some bj:=h;cases hd:Nat.ble (Nat.succ d) n with
  |false=>rw[hd] at h';cases h'
  |true=>
   rw[hd] at h';have h2:zg v (fun v=>fr.k9 d v k)=some bj:=h';rw[F',T.JO] at h2;exact⟨_,h2,hf.put (xh hd) hv,rfl⟩
section
variable{w:World}{β:af}{A:AW}(inv:Inv w0 E.G β A w){n:Nat}{fr:Gt}{a:Act}(hf:cf β n fr a.tmps){o:Oper}{ro:Option Nat}{K:Act→World→Prop}{Q:Exit→Act→World→Prop}
include ok ba inv hf in
theorem Xf{v:xM}{A':AW}(h:ju E sq A fr o.op= .val v A')(hK:∀ah v' w',ai ah v v'→Inv w0 E.G ah A' w'→β.grow ah A.next→A.next≤A'.next→K (a.put o.dst v') w'):o.wpIn (jY ro) 0 P a w K Q:=by
 obtain⟨ah,v',w',aJ,hv,bV,hg,hn⟩:=bn6 ok ba inv hf h;have key:=hK ah v' w' hv bV hg hn;unfold Oper.wpIn;refine⟨fun _ _=>trivial,?_⟩;rw[OF h (by simp)];rcases aJ with hr|⟨hr,rfl⟩
 ·rw[hr];exact key
 ·rw[hr];exact key
include ok ba inv hf in
theorem bb3{v:xM}{A':AW}(h:aF E sq A fr o.op= .val v A')(hK:∀ah v' w',ai ah v v'→Inv w0 E.G ah A' w'→β.grow ah A.next→A.next≤A'.next→K (a.put o.dst v') w'):o.wpIn (jY ro) 0 P a w K Q:=by
 obtain⟨ah,v',w',aJ,hv,bV,hg,hn⟩:=Qy ok ba inv hf h;unfold Oper.wpIn;refine⟨fun _ _=>trivial,?_⟩;rw[Oh h (by simp)];rcases aJ with h1|⟨h1,rfl⟩
 ·rw[h1];exact hK ah v' w' hv bV hg hn
 ·rw[h1];exact hK ah undef w' hv bV hg hn
include inv hf in
theorem bC4{q:List (xM×AW)}(h:ju E sq A fr o.op= .nd q)(hK:∀p∈q,∀ah v' w',ai ah p.1 v'→Inv w0 E.G ah p.2 w'→β.grow ah A.next→A.next≤p.2.next→K (a.put o.dst v') w'):o.wpIn (jY ro) 0 P a w K Q:=by
 obtain⟨p,hp,ah,v',w',aJ,hv,bV,hg,hn⟩:=bn7 (P:=P) inv hf h;have key:=hK p hp ah v' w' hv bV hg hn;unfold Oper.wpIn;refine⟨fun _ _=>trivial,?_⟩;rw[OF h (by simp)];rcases aJ with hr|⟨hr,rfl⟩
 ·rw[hr];exact key
 ·rw[hr];exact key
include ok inv hf in
theorem Wh{call:cT→List xM→AW→aZ xM}(hc:fG P E call){t:cT}{args:List xM}{bj:List (xM×AW)}(h:ju E sq A fr o.op= .call t args)(mi:call t args A=some bj)
 (hK:∀p∈bj,∀ah v' w',ai ah p.1 v'→Inv w0 E.G ah p.2 w'→β.grow ah A.next→A.next≤p.2.next→K (a.put o.dst v') w'):o.wpIn (jY ro) 0 P a w K Q:=by
 obtain⟨args',iR,aJ⟩:=aV9 ok inv hf h;have vW:=hc w0 t args A bj β w args' mi inv iR;unfold Oper.wpIn;refine⟨fun _ _=>trivial,?_⟩;rw[OF h (by simp)];cases t with
 |fn f=>
  have BG:(execOp a.eval o).run P w= .ok (.enter f ⟨args'⟩) w:=aJ;rw[BG];refine⟨fun h=>by simp[Fence.wide] at h,XN (Calls.mono vW ?_)⟩;rintro e w' ⟨p,hp,ah,v',rfl,hv,bV,hg,hn⟩;exact hK p hp ah v' w' hv bV hg hn
 |dy v=>
  obtain⟨f',hv,BG⟩:=aJ;obtain⟨I5,p,q,fn,c,e1,e2,e3,e4,bq1⟩:=vW f' hv;rw[BG I5 p q fn c e1 e2 e3 e4];refine⟨fun h=>by simp[Fence.wide] at h,XN (Calls.mono bq1 ?_)⟩;rintro e w' ⟨p,hp,ah,v',rfl,hv,bV,hg,hn⟩;exact hK p hp ah v' w' hv bV hg hn
 |rd L=>
  obtain⟨l,hl,BG⟩:=aJ;obtain⟨f,tmps,x,y,hy,bp4⟩:=vW l hl;rw[BG,hy];refine⟨fun h=>by simp[Fence.wide] at h,bm5 (RoundIn.mono bp4 ?_)⟩;rintro e w' ⟨p,hp,ah,v',rfl,hv,bV,hg,hn⟩;exact hK p hp ah v' w' hv bV hg hn
end
include ok ba in
theorem Dw{call:cT→List xM→AW→aZ xM}(hc:fG P E call){n:Nat}{ops:List Oper}{ro:Option Nat}{ds:List Deferred}:∀(l:List Oper) (fr:Fr) (A:AW) (bj:List (Fr×AW)) (β:af) (a:Act) (w:World) (Q:Exit→Act→World→Prop),
 vq E sq call n ops l fr A=some bj→cf β n (fr.get J) a.tmps→Inv w0 E.G β A w→a.defers=ds→(∀a' w',qk w0 E.G n β A ds bj a' w'→Q .normal a' w')→wpListIn (jY ro) 0 P ⟨ops⟩ Q l a w
 |[],fr,A,bj,β,a,w,Q,h,hf,inv,hd,hQ=>by
  cases h;exact hQ a w ⟨_,xn,β,hf,inv,af.cq _ _,xk _,hd⟩
 |o::l,fr,A,bj,β,a,w,Q,h,hf,inv,hd,hQ=>by
  have h':(match qb ops (fr.get J) o with
   |none=>none
   |some false=>qV n fr o.dst undef (fun fr=>vq E sq call n ops l fr A)
   |some true=>match ju E sq A (fr.get J) o.op with
    | .fail=>none
    | .val v A'=>qV n fr o.dst v (fun fr=>tJ A' (fun A'=>vq E sq call n ops l fr A'))
    | .call f args=>kI (call f args A) (fun p=>qV n fr o.dst p.1 (fun fr=>vq E sq call n ops l fr p.2))
    | .nd q=>kI (some q) (fun p=>qV n fr o.dst p.1 (fun fr=>vq E sq call n ops l fr p.2)))=some bj:=by
   rw[←h];exact(bh9 _ _ call n o (vq E sq call n ops l) fr A).symm
  clear h;unfold wpListIn;split at h'
  ·cases h'
  ·rename_i hw;rw[Gf hw hf,if_neg (by simp)];obtain⟨cY,h1,h2,h3⟩:=JT h' hf (ai.undef (β:=β));exact⟨fun _ _=>trivial,Dw hc l cY A bj β _ w Q h1 h2 inv (h3.trans hd) hQ⟩
  ·rename_i hw;rw[Gf hw hf,if_pos rfl];split at h'
   ·cases h'
   ·rename_i v A' eE;refine Xf ok ba inv hf eE (fun ah v' w' hv bV hg hn=> ?_);have aK:=inv.fX hg;obtain⟨cY,h1,h2,h3⟩:=JT h' (hf.mono aK) hv;rw[yX] at h1;exact Dw hc l cY A' bj ah (a.put o.dst v') w' Q h1 h2 bV (h3.trans hd) (fun a2 w2 hp=>hQ a2 w2 (hp.mono hg hn (fun _ hc=>hc)))
   ·rename_i f args eE;obtain⟨fe,fq,bG⟩:=we h';refine Wh ok inv hf hc eE fq (fun p hp ah v' w' hv bV hg hn=> ?_);obtain⟨r,eC,bK⟩:=bG p hp;have aK:=inv.fX hg;obtain⟨cY,h1,h2,h3⟩:=JT eC (hf.mono aK) hv;exact Dw hc l cY p.2 r ah (a.put o.dst v') w' Q h1 h2 bV (h3.trans hd) (fun a2 w2 aY=>hQ a2 w2 (aY.mono hg hn bK))
   ·rename_i q eE;obtain⟨fe,fq,bG⟩:=we h';cases fq;refine bC4 inv hf eE (fun p hp ah v' w' hv bV hg hn=> ?_);obtain⟨r,eC,bK⟩:=bG p hp;have aK:=inv.fX hg;obtain⟨cY,h1,h2,h3⟩:=JT eC (hf.mono aK) hv;exact Dw hc l cY p.2 r ah (a.put o.dst v') w' Q h1 h2 bV (h3.trans hd) (fun a2 w2 aY=>hQ a2 w2 (aY.mono hg hn bK))
theorem UP{b:Frame}{a:Act}{k:List Item}{cs:List Frame}{w:World}{c:Code}:step P (lone (b.atR a (.code (.scope c)::k)) cs w)= .next (lone (b.atR a (.code c:: .inScope c::k)) cs w):=
 step_lone_go (by simp[stepG,stepG.exec,Frame.atR])
theorem UA{b:Frame}{a:Act}{k:List Item}{cs:List Frame}{w:World}{c:Code}:step P (lone (b.atR a (.inScope c::k)) cs w)= .next (lone (b.atR a k) cs w):=
 step_lone_go (by simp[stepG,stepG.exec,Frame.atR])
def Ey(β:af):List Nat→List Deferred→Prop
 |[],[]=>True
 |D::ms,d::ds=>(∃l,β D=some l∧d.target= .collected l.b)∧Ey β ms ds
 |_,_=>False
theorem Ey.mono{β ah:af}(hb:β.le ah):∀{ms:List Nat} {ds:List Deferred},Ey β ms ds→Ey ah ms ds
 |[],[],_=>trivial
 |_::_,_::_,⟨⟨l,h1,h2⟩,h3⟩=>⟨⟨l,hb.f _ _ h1,h2⟩,h3.mono hb⟩
 |[],_::_,h=>h.elim
 |_::_,[],h=>h.elim
theorem Jc(w:World)(g:Nat)(o:Obj):w.grownBy (w.putObj g o) (some g):=
 ⟨rfl,rfl,rfl,by simp,fun k _ hk=>World.putObj_heap_other (fun e=>hk (by rw[e]))⟩
theorem Wo{β:af}:∀(ms:List Nat) (ds:List Deferred) (A A':AW) (w:World) (fr:Frame) (cs:List Frame),Qq E ms A=some A'→Ey β ms ds→Inv w0 E.G β A w→fr.mode≠ .run→fr.defers=ds→
 ∃w',Inv w0 E.G β A' w'∧A'.next=A.next∧Steps P (lone fr cs w) (lone {fr with defers:=[]} cs w')
 |[],[],A,A',w,fr,cs,h,_,inv,hm,hd=>by
  cases h;refine⟨w,inv,rfl,?_⟩;rw[←hd];exact .refl P _
 |D::ms,d::ds,A,A',w,fr,cs,h,⟨⟨l,hl,ht⟩,AE⟩,inv,hm,hd=>by
  have h':(match A.get D with
   |some ⟨.yL,_,_,_,_⟩=>bs (Nat.ble E.G.n D) (Qq E ms (A.put D none)) none
   |_=>none)=some A':=h
  clear h;split at h'
  ·rename_i es ex r ty hg;replace h':=au h';rcases h' with⟨hG,h'⟩|⟨_,h'⟩
   ·have FA:w.heap[l.b]? =some (.deferred (some [])):=inv.cont D _ l hg hl;have B8:=inv.forget (w':=w.putObj l.b (.deferred none)) D l _ hg hl (xh hG) (Jc w l.b _) (by simp);obtain⟨w',h1,h2,h3⟩:=Wo ms ds (A.put D none) A' _ {fr with defers:=[]++ds} cs h' AE B8 hm rfl;exact⟨w',h1,h2,.head (step_collected hm hd ht (run_takeDeferred FA)) h3⟩
   ·cases h'
  ·cases h'
 |[],_::_,_,_,_,_,_,_,h,_,_,_=>h.elim
 |_::_,[],_,_,_,_,_,_,h,_,_,_=>h.elim
def zZ(β:af)(ro r:Option Nat):Prop:=match ro,r with|none,none=>True|some L,some l=>∃lb,β L=some lb∧lb.b=l|_,_=>False
theorem zZ.mono{β ah:af}(hb:β.le ah){ro r:Option Nat}(h:zZ β ro r):zZ ah ro r:=by
 unfold zZ at*;cases ro<;>cases r<;>first|exact h|exact h.imp fun lb ⟨e1,e2⟩=>⟨hb.f _ _ e1,e2⟩
def Mn(w:World)(r:Option Nat):xM:=
 match r with
 |some l=>(match w.heap[l]? with|some (.loop rec)=> .bool rec.pending.isNone|_=> .bool true)
 |none=> .bool true
def Al(ro:Option Nat)(b:Frame)(cs:List Frame)(a:Act)(td:List Item)(w:World):Machine:=
 match ro,cs with
 |some _,c::bC=>lone (c.finish (Mn w b.roundOf)) bC w
 |_,_=>lone {b.atR a td with mode:= .returning} cs w
include ok in
theorem aZ8{A:AW}{fv fv' y y':xM}{g:FuncId}{args:List xM}{β:af}{w:World}(h:zY E A fv [y]= .call (.fn g) args)(hv:ai β fv fv')(hy:ai β y y'):
 ∃d args',(Deferred.ofValue fv' #[y']).run P w= .ok d w∧(invoke d.target d.args).run P w= .ok (.enter g ⟨args'⟩) w∧aP β args args':=by
 unfold zY at h;split at h
 ·rename_i I5 p q;split at h
  ·rename_i nm Tw ta ps rt nf nt rs bd nr ou fi el ln me tn pb;cases h;obtain⟨ER,BJ⟩:=ok.fn g _ pb;have P4: ¬nm= "runtime.NumGoroutine":=by simpa using BJ
   cases hv with
   |func _ _ p' _ q' hp hq h1 h2=>
    refine⟨{target:= .fn (.func g) ⟨q'⟩,args:=⟨p'⟩++ #[y']},p'++[y']++q',by simp[Deferred.ofValue],?_,?_⟩
    ·simp[invoke,callFunc,program,Sem.run,ER,P4]
    ·rw[jm,jm];exact(aP.append ⟨hp,h1⟩ ((aP.nil β).cons hy)).append ⟨hq,h2⟩
  ·split at h
   ·cases h
   ·unfold dW at h;split at h<;>cases h
 ·cases h
 ·cases h
 ·cases h
include ok ba in
theorem zd{call:cT→List xM→AW→aZ xM}(hc:fG P E call){n:Nat}{bL:List Oper→Fr→AW→aZ Fr}(kw:vc P E n bL){ro:Option Nat}{b:Frame}{cs:List Frame}(cw:ro.isSome=true→b.kind= .normal∧∃c bC,cs=c::bC):
 ∀(aN:Nat) (ms:List Nat) (ep:List Item) (fr:Fr) (A:AW) (bj:List (Fr×AW)) (β:af) (a:Act) (w:World),x5 E sq call n bL ro aN ms ep fr A=some bj→cf β n (fr.get J) a.tmps→Inv w0 E.G β A w→Ey β ms a.defers→zZ β ro b.roundOf→
  ∃a' w' td,qk w0 E.G n β A [] bj a' w'∧Steps P (lone (b.atR a ep) cs w) (Al ro b cs a' td w')
 |0,ms,ep,fr,A,bj,β,a,w,h,hf,inv,AE,ia=>by cases h
 |aN+1,ms,ep,fr,A,bj,β,a,w,h,hf,inv,AE,ia=>by
  have h':Qs E sq call n bL ro (x5 E sq call n bL ro aN) ms ep fr A=some bj:=h;clear h;rw[aU3] at h';unfold XY at h';have go:∀pw,x5 E sq call n bL ro aN ms pw fr A=some bj→step P (lone (b.atR a ep) cs w)= .next (lone (b.atR a pw) cs w)→
   ∃a' w' td,qk w0 E.G n β A [] bj a' w'∧Steps P (lone (b.atR a ep) cs w) (Al ro b cs a' td w'):=fun pw h1 h2=>by
   obtain⟨a',w',td,hp,hs⟩:=zd hc kw cw aN ms pw fr A bj β a w h1 hf inv AE ia;exact⟨a',w',td,hp,.head h2 hs⟩
  have region:∀id ops dr k fe,ep= .code (.region id ⟨ops⟩ dr)::k→(Code.region id ⟨ops⟩ dr).wpIn (jY b.roundOf) 0 P (fun e a' w'=>e= .normal∧qk w0 E.G n β A a.defers fe a' w') a w→(∀p∈fe,∃r,x5 E sq call n bL ro aN ms k p.1 p.2=some r∧∀c∈r,c∈bj)→
   ∃a' w' td,qk w0 E.G n β A [] bj a' w'∧Steps P (lone (b.atR a ep) cs w) (Al ro b cs a' td w'):=fun id ops dr k fe ht TG eT=>by
   subst ht;obtain⟨e,a1,w1,⟨rfl,p,hp,aI,g1,g2,g3,g4,g5⟩,SP⟩:=TG b k cs rfl trivial (Yu _ _);obtain⟨r,eC,bK⟩:=eT p hp;have aK:=inv.fX g3;obtain⟨a',w',td,Hx,hs⟩:=zd hc kw cw aN ms k p.1 p.2 r aI a1 w1 eC g1 g2 (g5▸AE.mono aK) (ia.mono aK);exact⟨a',w',td,Hx.mono g3 g4 bK,Steps.trans (StepsIn.steps SP) hs⟩
  have fin:∀td,ro=none→E4 E none ms fr A=some bj→step P (lone (b.atR a ep) cs w)= .next (lone {b.atR a td with mode:= .returning} cs w)→
   ∃a' w' td,qk w0 E.G n β A [] bj a' w'∧Steps P (lone (b.atR a ep) cs w) (Al ro b cs a' td w'):=fun td hrn he aQ=>by
   subst hrn;unfold E4 at he;simp only at he;split at he
   ·rename_i A' oe;cases he;obtain⟨w',h1,h2,h3⟩:=Wo (P:=P) (w0:=w0) ms a.defers A A' w {b.atR a td with mode:= .returning} cs oe AE inv (by simp) rfl;refine⟨⟨a.tmps,[]⟩,w',td,⟨_,xn,β,hf,h1,af.cq _ _,by rw[h2];exact xk _,rfl⟩,.head aQ ?_⟩;exact h3
   ·cases he
  have KX:∀(j:Option Code) (L:Nat),ro=some L→Ki E (YI j) L fr A=some bj→
   (∀c bC l v w',cs=c::bC→b.roundOf=some l→b.kind= .normal→(Instr.endRound l j).run P w= .ok v w'→step P (lone (b.atR a ep) cs w)= .next (lone (c.finish v) bC w'))→
   ∃a' w' td,qk w0 E.G n β A [] bj a' w'∧Steps P (lone (b.atR a ep) cs w) (Al ro b cs a' td w'):=fun j L hr h' aQ=>by
   rw[hr] at ia;obtain⟨hk,c,bC,hcc⟩:=cw (by rw[hr];rfl);unfold Ki at h';cases pd:b.roundOf with
   |none=>rw[pd] at ia;exact ia.elim
   |some l=>
    rw[pd] at ia;obtain⟨lb,il,SE⟩:=ia;split at h'
    ·rename_i t m ps x y es ex r ty hg;replace h':=au h';rcases h' with⟨hG,h'⟩|⟨_,h'⟩
     ·cases h';obtain⟨rec,k1,k2,k3,k4,k5,k6,k7,k8⟩:=inv.cont L _ lb hg il;subst SE;have Ad:=run_endRound (P:=P) j k1;have B8:=inv.write (w':=w.putObj lb.b (.loop {rec with state:=if j.isNone then .ready else .done,pending:=j})) L lb _ ⟨.loop (YI j) t m ps x y,es,ex,r,ty⟩ hg il (xh hG) (Jc w lb.b _) (by simp)
       ⟨{rec with state:=if j.isNone then .ready else .done,pending:=j},World.putObj_heap_same (inv.loc L lb il).1,by cases j<;>rfl,by cases j<;>rfl,k4,k5,k6,k7,k8⟩
      refine⟨⟨a.tmps,[]⟩,_,[],⟨_,xn,β,hf,B8,af.cq _ _,xk _,rfl⟩,.one ?_⟩;rw[aQ c bC _ _ _ hcc pd hk Ad,hr,hcc];have hv:Mn (w.putObj lb.b (.loop {rec with state:=if j.isNone then .ready else .done,pending:=j})) b.roundOf= .bool j.isNone:=by
       rw[pd];unfold Mn;simp only;rw[World.putObj_heap_same (inv.loc L lb il).1]
      unfold Al;simp only [hv]
     ·cases h'
    ·cases h'
  split at h'
  ·cases hr:ro with
   |none=>
    rw[hr] at h';have hb:b.roundOf=none:=by rw[hr] at ia;unfold zZ at ia;cases pd:b.roundOf with|none=>rfl|some l=>rw[pd] at ia;exact ia.elim
    rw[←hr];exact fin [] hr h' (stepR_end hb)
   |some L=>
    rw[hr] at h';rw[←hr];refine KX none L hr h' (fun c bC l v w' e1 e2 e3 e4=> ?_);subst e1;exact stepR_round_end e2 e3 e4
  ·rename_i k;split at h'
   ·have hb:b.roundOf=none:=by unfold zZ at ia;cases pd:b.roundOf with|none=>rfl|some l=>rw[pd] at ia;exact ia.elim
    exact fin _ rfl h' (stepR_ret hb)
   ·rename_i L;refine KX (some .ret) L rfl h' (fun c bC l v w' e1 e2 e3 e4=> ?_);subst e1;exact stepR_round_ret e2 e3 e4
  ·exact go _ h' stepR_skip
  ·exact go _ h' stepR_label
  ·exact go _ h' stepR_seq
  ·rename_i c x y k;have hv:=jX (a:=a) inv hf c;split at h'
   ·rename_i t ht;rw[ht] at hv;generalize yH:a.eval c=cv at hv;cases hv;refine go _ h' ?_;have:=stepR_cond (P:=P) (b:=b) (k:=k) (cs:=cs) (w:=w) (x:=x) (y:=y) yH;rw[this];cases t<;>rfl
   ·cases h'
  ·exact go _ h' stepR_block
  ·exact go _ h' stepR_loop
  ·exact go _ h' UP
  ·split at h'
   ·rename_i hk;exact go _ h' (stepR_exit hk)
   ·rename_i id k x hx;unfold zR at h';split at h'
    ·cases h'
    ·rename_i L;refine KX (some (.exit id)) L rfl h' (fun c bC l v w' e1 e2 e3 e4=> ?_);subst e1;exact stepR_round_exit e2 e3 hx e4
  ·split at h'
   ·rename_i hk;exact go _ h' (stepR_goto hk)
   ·rename_i id k x hx;unfold zR at h';split at h'
    ·cases h'
    ·rename_i L;refine KX (some (.goto id)) L rfl h' (fun c bC l v w' e1 e2 e3 e4=> ?_);subst e1;exact stepR_round_goto e2 e3 hx e4
  ·rename_i id ops k;obtain⟨fe,h1,h2⟩:=we h';refine region id ops false k fe rfl ?_ h2;exact wpIn_region_list (Dw ok ba hc ops fr A fe β a w _ h1 hf inv rfl (fun a' w' hp=>⟨rfl,hp⟩))
  ·rename_i id ops k;obtain⟨fe,h1,h2⟩:=we h';exact region id ops true k fe rfl (kw _ w0 ops fr A fe β a w id h1 hf inv) h2
  ·
   rename_i f ps x y k;split at h';rotate_left
   ·cases h'
   have hb:b.roundOf=none:=by unfold zZ at ia;cases pd:b.roundOf with|none=>rfl|some l=>rw[pd] at ia;exact ia.elim
   unfold PU at h';split at h';rotate_left
   ·cases h'
   rename_i g args yH;replace h':=au h';rcases h' with⟨hG,h'⟩|⟨_,h'⟩;rotate_left
   ·cases h'
   have pg:=xh hG;obtain⟨fe,fq,bG⟩:=we h';have n1:=inv.new ⟨.yL,0,true,false,0⟩ (.deferred (some [])) ⟨w.heap.size,0,0,0⟩ rfl rfl;have rb:=inv.fX n1.2;have n2:=n1.1.new ⟨.loop .ready fr n ps x y,0,true,false,0⟩ (.loop {state:= .ready,pending:=none,fn:=b.fn,tmps:=a.tmps,params:=⟨ps⟩,assign:=x,body:=y,defers:=w.heap.size}) ⟨(w.alloc (.deferred (some []))).heap.size,0,0,0⟩ rfl
    ⟨_,rfl,rfl,rfl,rfl,rfl,rfl,hf.1,fun t=>((hf.2 t).mono rb).mono (n1.1.fX (af.wi _ _ _))⟩
   have SC:=n1.1.fX n2.2;have AT:(A.add ⟨.yL,0,true,false,0⟩).next=A.next+1:=rfl;rw[AT] at n2;generalize So:(af.put (af.put β A.next ⟨w.heap.size,0,0,0⟩) (A.next+1) ⟨(w.alloc (.deferred (some []))).heap.size,0,0,0⟩)=cK at*;have hL:cK (A.next+1)=some ⟨(w.alloc (.deferred (some []))).heap.size,0,0,0⟩:=by rw[←So];exact jl _ _ _
   have hD:cK A.next=some ⟨w.heap.size,0,0,0⟩:=by rw[←So];rw[af.rR,if_neg (by omega)];exact jl _ _ _
   have au5:β.le cK:=af.le_trans rb (by rw[←So];exact SC);have Me:β.grow cK A.next:=af.iZ n1.2 n2.2 (by omega);have as9:(w.alloc (.deferred (some []))).heap.size=w.heap.size+1:=by simp
   obtain⟨d,args',qC,io,iR⟩:=aZ8 (P:=P) (β:=cK) (w:=(w.alloc (.deferred (some []))).alloc (.loop {state:= .ready,pending:=none,fn:=b.fn,tmps:=a.tmps,params:=⟨ps⟩,assign:=x,body:=y,defers:=w.heap.size})) ok yH ((jX (a:=a) inv hf f).mono au5) (ai.yield (β:=cK) (A.next+1) _ hL);simp only [as9] at qC;have mi:=hc w0 (.fn g) args _ fe cK _ args' fq n2.1 iR;have he:(Instr.enterLoop b.fn a.tmps ⟨ps⟩ x y b.roundOf).run P w= .ok (w.heap.size+1,[{target:= .collected w.heap.size,args:= #[]}]) ((w.alloc (.deferred (some []))).alloc (.loop {state:= .ready,pending:=none,fn:=b.fn,tmps:=a.tmps,params:=⟨ps⟩,assign:=x,body:=y,defers:=w.heap.size})):=by
    rw[hb];exact run_enterLoop_outer _ _ _ _ _
   have aQ:=stepR_rangeFunc (P:=P) (b:=b) (a:=a) (k:=k) (cs:=cs) (w:=w) (g:=f) (ps:=⟨ps⟩) (assign:=x) (body:=y) (d:=d) he (by simp[resolve];exact qC) io;obtain⟨e,w3,frX,⟨p,hp,gI,v3,rfl,TL,B7,H8,yC⟩,bq0,pb,bp7⟩:=mi (b.atR {a with defers:=[{target:= .collected w.heap.size,args:= #[]}]++a.defers} (.inRangeFunc (w.heap.size+1)::k)::cs);obtain⟨r,eC,bK⟩:=bG p hp;have CJ:((A.add ⟨.yL,0,true,false,0⟩).add ⟨.loop .ready fr n ps x y,0,true,false,0⟩).next=A.next+2:=rfl;rw[CJ] at H8 yC;have Nz:gI (A.next+1)=some ⟨(w.alloc (.deferred (some []))).heap.size,0,0,0⟩:=(H8.f _ (by omega)).trans hL;have hD3:gI A.next=some ⟨w.heap.size,0,0,0⟩:=(H8.f _ (by omega)).trans hD;rw[as9] at Nz;have cO4:cK.le gI:=n2.1.fX H8;have aK:β.le gI:=af.le_trans au5 cO4;have kT:β.grow gI A.next:=af.iZ Me H8 (by omega);have XQ:∀(j:Option Code) (rec:Loop) aj,p.2.get (A.next+1)=some aj→aj.still=false→w3.heap[w.heap.size+1]? =some (.loop rec)→rec.state≠ .busy→rec.pending=j→
    x5 E sq call n bL none aN (A.next::ms) ((j.map Item.code).toList++k) fr (p.2.put (A.next+1) none)=some r→
    ∃a' w' td,qk w0 E.G n β A [] bj a' w'∧Steps P (lone (b.atR a (.code (.rangeFunc f ⟨ps⟩ x y)::k)) cs w) (Al none b cs a' td w'):=fun j rec aj vU AB k1 k2 k3 eC=>by
    have cK7:=B7.forget (w':=w3.putObj (w.heap.size+1) (.loop {rec with state:= .exhausted})) (A.next+1) _ _ vU Nz (by omega) (Jc w3 _ _) (by simp) AB;have bT7:=run_endLoop (P:=P) k1 k2;have Ad:(Instr.endLoop (w.heap.size+1)).run P w3= .ok j (w3.putObj (w.heap.size+1) (.loop {rec with state:= .exhausted})):=by
     rw[bT7,k3]
    obtain⟨a',w',td,Hx,hs⟩:=zd hc kw cw aN (A.next::ms) ((j.map Item.code).toList++k) fr (p.2.put (A.next+1) none) r gI {a with defers:=[{target:= .collected w.heap.size,args:= #[]}]++a.defers} _ eC (hf.mono aK) cK7 ⟨⟨_,hD3,rfl⟩,AE.mono aK⟩ (ia.mono aK);refine⟨a',w',td,Hx.mono kT (xH (by omega) yC) bK,.head aQ (Steps.trans bq0 (.head ?_ (.head (stepR_endRangeFunc Ad) hs)))⟩;rw[←finish_atR_inRangeFunc (w.heap.size+1) v3];exact step_leave_returned bp7
   split at eC
   ·rename_i vU;obtain⟨rec,k1,k2,k3,k4⟩:=B7.cont (A.next+1) _ _ vU Nz;exact XQ none rec _ vU rfl k1 (by rw[k2];simp) k3 eC
   ·rename_i j3 _ _ _ _ _ _ _ _ _ vU;obtain⟨rec,k1,k2,k3,k4⟩:=B7.cont (A.next+1) _ _ vU Nz;exact XQ (some j3) rec _ vU rfl k1 (by rw[k2];simp) k3 eC
   ·cases eC
  ·
   rename_i k;split at h'
   ·cases h'
   rename_i L;cases pd:b.roundOf with
   |none=>rw[pd] at ia;exact ia.elim
   |some l=>
    have cL7:=ia;rw[pd] at ia;obtain⟨lb,il,SE⟩:=ia;split at h'
    ·rename_i t m ps x y es ex r ty hg;replace h':=au h';rcases h' with⟨hG,h'⟩|⟨_,h'⟩
     ·obtain⟨rec,k1,k2,k3,k4,k5,k6,k7,k8⟩:=inv.cont L _ lb hg il;subst SE;have cQ2:=run_beginRound (P:=P) k1 k2;have B8:=inv.write (w':=w.putObj lb.b (.loop {rec with state:= .busy})) L lb _ ⟨.loop .busy t m ps x y,es,ex,r,ty⟩ hg il (xh hG) (Jc w lb.b _) (by simp)
       ⟨{rec with state:= .busy},World.putObj_heap_same (inv.loc L lb il).1,rfl,k3,k4,k5,k6,k7,k8⟩
      obtain⟨a',w',td,hp,hs⟩:=zd hc kw cw aN ms k fr _ bj β a _ h' hf B8 AE cL7;exact⟨a',w',td,hp,.head (stepR_beginRound pd cQ2) hs⟩
     ·cases h'
    ·cases h'
  ·exact go _ h' stepR_inBlock
  ·exact go _ h' UA
  ·exact go _ h' stepR_inLoop
  ·cases h'
theorem Xc{ρ:Type}{n:Nat}{β:af}:∀(l l':List xM) (i:Nat) (fr:Fr) (tmps:Array xM) (k:Fr→ρ),aP β l l'→i+l.length≤n→cf β n (fr.get J) tmps→
 ∃cY zk,LA l i fr k=k cY∧cf β n (cY.get J) zk∧(∀j,zk[j]? =if i≤j∧j<i+l.length then l'[j - i]? else tmps[j]?)
 |[],l',i,fr,tmps,k,hl,hn,hf=>⟨fr,tmps,rfl,hf,fun j=>by rw[if_neg (fun e=>by simp at e;omega)]⟩
 |v::l,l',i,fr,tmps,k,hl,hn,hf=>by
  obtain⟨v',r,rfl,hv,hr⟩:=hl.l5;rw[xi] at hn;obtain⟨cY,zk,h1,h2,h3⟩:=Xc l r (i+1) (fr.set i v) (tmps.setIfInBounds i v') k hr (by omega) (hf.put (by omega) hv);refine⟨cY,zk,?_,h2,fun j=> ?_⟩
  ·show fr.k9 i v (fun fr=>LA l (i+1) fr k)=_;rw[T.JO];exact h1
  ·rw[h3 j,xi];by_cases c1:i+1≤j∧j<i+1+l.length
   ·rw[if_pos c1,if_pos (by omega),show j - i=(j - (i+1))+1 by omega,List.getElem?_cons_succ]
   ·rw[if_neg c1];by_cases c2:i=j
    ·subst c2;rw[if_pos (by omega),Nat.sub_self,List.getElem?_cons_zero];have:i<tmps.size:=by rw[hf.1];omega
     simp[this]
    ·rw[if_neg (by omega),Array.getElem?_setIfInBounds_ne c2]
end
section
variable{P:Program}{E:aq}(ok:E.Ok P){sq:List (Nat×List xO)}(ba:E.Seq P sq){w0 w:World}
def Ke(tmps:Array xM)(r:ResultVar):Sem xM:=match r with
 | .tmp t=>pure (tmps.getD t undef)
 | .cell a t=>do loadVar t (←asAddr (tmps.getD a undef))
include ok in
theorem O7{β:af}{A:AW}(inv:Inv w0 E.G β A w){n:Nat}{fr:Fr}{tmps:Array xM}(hf:cf β n (fr.get J) tmps):∀(l:List ResultVar) (vs:List xM),RK E fr A l=some vs→∃qu,(l.mapM (Ke tmps)).run P w= .ok qu w∧aP β vs qu
 |[],vs,h=>by cases h;exact⟨[],by simp,aP.nil β⟩
 |r::l,vs,h=>by
  have h':(match(match r with| .tmp t=>some (fr.get J t)| .cell a t=>zq E A t (fr.get J a)),RK E fr A l with
   |some v,some vs=>some (v::vs)
   |_,_=>none)=some vs:=h
  clear h;split at h'
  ·rename_i v vs2 hv ji;cases h';obtain⟨qu,h1,h2⟩:=O7 inv hf l vs2 ji;have key:∃v',(Ke tmps r).run P w= .ok v' w∧ai β v v':=by
    cases r with
    |tmp t=>cases hv;exact⟨_,by simp[Ke],hf.2 t⟩
    |cell a t=>
     have cM:zq E A t (fr.get J a)=some v:=hv;have hx:=hf.2 a;obtain⟨v',e1,e2⟩:=WR ok inv cM hx;unfold zq at cM;split at cM
     ·rename_i B o hq;rw[hq] at hx;generalize gA:tmps.getD a undef=x at*;cases hx with
      |ptr _ _ lc cR=>
       refine⟨v',?_,e2⟩;simp[Instr.loadAt,Instr.sureAddr] at e1;show(do loadVar t (←asAddr (tmps.getD a undef)):Sem xM).run P w= .ok v' w;rw[gA];simp[asAddr,e1]
     ·cases cM
   obtain⟨v',e1,e2⟩:=key;exact⟨v'::qu,by simp[List.mapM_cons,e1,h1],h2.cons e2⟩
  ·cases h'
include ok in
theorem Xq{β:af}{A:AW}(inv:Inv w0 E.G β A w){n:Nat}{fr:Fr}{tmps:Array xM}(hf:cf β n (fr.get J) tmps){fn:Func}{rs:List ResultVar}(hr:fn.results=⟨rs⟩){v:xM}(h:HM E fr A rs=some v):
 ∃v',(results fn tmps).run P w= .ok v' w∧ai β v v':=by
 have sK:results fn tmps=(do let vs←(⟨rs⟩:Array ResultVar).mapM (Ke tmps);pure (if h:vs.size=1 then vs[0] else .tuple vs)):=by
  unfold results;rw[hr];rfl
 unfold HM at h;split at h
 ·rename_i v0 hl;cases h;obtain⟨qu,h1,h2⟩:=O7 ok inv hf rs _ hl;obtain⟨v',l',rfl,hv,ee⟩:=h2.l5;have:=ee.oo;subst this;refine⟨v',?_,hv⟩;rw[sK];simp[Array.mapM_eq_mapM_toList,h1]
 ·rename_i vs bA hl;cases h;obtain⟨qu,h1,h2⟩:=O7 ok inv hf rs _ hl;refine⟨.tuple ⟨qu⟩,?_,ai.rJ h2⟩;rw[sK];have hn: ¬qu.length=1:=fun e=>by
   rw[←h2.1] at e;cases vs with
   |nil=>cases e
   |cons x t=>
    cases t with
    |nil=>exact bA x rfl
    |cons _ _=>simp at e
  simp[Array.mapM_eq_mapM_toList,h1,hn]
 ·cases h
theorem WB{ρ:Type}{n:Nat}{β:af}:∀(ps:List Nat) (l l':List xM) (fr:Fr) (tmps:Array xM) (k:Fr→ρ),aP β l l'→(∀t∈ps,t<n)→cf β n (fr.get J) tmps→
 ∃cY,KL ps l fr k=k cY∧cf β n (cY.get J) ((ps.zip l').foldl (fun tmps (p:Nat×xM)=>tmps.setIfInBounds p.1 p.2) tmps)
 |[],l,l',fr,tmps,k,hl,hn,hf=>⟨fr,rfl,by simpa using hf⟩
 |t::ps,[],l',fr,tmps,k,hl,hn,hf=>by rw[hl.oo];exact⟨fr,rfl,by simpa using hf⟩
 |t::ps,v::l,l',fr,tmps,k,hl,hn,hf=>by
  obtain⟨v',r,rfl,hv,hr⟩:=hl.l5;obtain⟨cY,h1,h2⟩:=WB ps l r (fr.set t v) (tmps.setIfInBounds t v') k hr (fun x hx=>hn x (xo _ hx)) (hf.put (hn t xn) hv);refine⟨cY,?_,by simpa using h2⟩;show fr.k9 t v (fun fr=>KL ps l fr k)=_;rw[T.JO];exact h1
include ok ba in
theorem V'{bL:(cT→List xM→AW→aZ xM)→Nat→List Oper→Fr→AW→aZ Fr}(kw:∀call n,fG P E call→vc P E n (bL call n)){dL:cT→List xM→AW→aZ xM}(vR:fG P E dL)(aN:Nat):∀depth,fG P E (qS E sq bL dL aN depth)
 |0=>fun w0 t args A bj β w args' h=>by cases h
 |depth+1=>fun w0 t args A bj β w args' h inv iR=>by
  have ih:=V' kw vR aN depth;cases hq:dL t args A with
  |some o=>
   have ho:o=bj:=by
    have:(match dL t args A with|some o=>some o|none=>_)=some bj:=h;rw[hq] at this;exact xC this
   subst ho;exact vR w0 t args A o β w args' hq inv iR
  |none=>
  cases t with
  |fn f=>
   have h':(match E.fn.get none f with
    |some ⟨_,_,_,_,_,_,nt,⟨rs⟩,some c,_,_,_,_,_,_,_⟩=>
     bs (Nat.ble (bI args) nt) (LA args 0 (T.full undef (Nat.add (Nat.log2 (Nat.add nt 1)) 1)) (fun fr=>
      kI (x5 E sq (qS E sq bL dL aN depth) nt (bL (qS E sq bL dL aN depth) nt) none aN [] [.code c] fr A) (fun p=>match HM E p.1 p.2 rs with|some v=>some [(v,p.2)]|none=>none))) none
    |_=>none)=some bj:=by
    rw[←h];show _=(match dL (.fn f) args A with|some o=>some o|none=>_);rw[hq];rfl
   clear h;split at h'
   ·rename_i nm Tw ta ps rt nf nt rs c nr ou fi el ln me tn pb;replace h':=au h';rcases h' with⟨aK,h'⟩|⟨_,h'⟩
    ·have yf:args.length≤nt:=by have:=xh aK;rw[dA] at this;exact this
     obtain⟨ER,_⟩:=ok.fn f _ pb;have aC:=iR.1;have hf0:cf β nt (T.get J (T.full undef (Nat.add (Nat.log2 (Nat.add nt 1)) 1))) (Array.replicate nt undef):=by
      refine⟨by simp,fun t=> ?_⟩;have:(Array.replicate nt undef).getD t undef=undef:=by
       by_cases ht:t<nt
       ·simp[ht]
       ·simp[ht]
      rw[this];rcases T.CY undef J (Nat.add (Nat.log2 (Nat.add nt 1)) 1) t with e|e
      ·rw[e];exact ai.undef
      ·rw[e];exact .kL _
     obtain⟨cY,zk,hk,T7,TO⟩:=Xc args args' 0 _ _ _ iR (by omega) hf0;rw[hk] at h';have bR6:zk=(⟨args'⟩:Array xM)++Array.replicate (nt - args'.length) undef:=by
      apply Array.ext_getElem?;intro j;rw[TO j];by_cases hj:j<args'.length
      ·rw[if_pos (by omega),Array.getElem?_append_left (by simpa using hj)];simp
      ·rw[if_neg (by omega),Array.getElem?_append_right (by simp;omega)];simp only [List.size_toArray,Array.getElem?_replicate];by_cases fL:j<nt
       ·rw[if_pos fL,if_pos (by omega)]
       ·rw[if_neg fL,if_neg (by omega)]
     obtain⟨fe,fq,bG⟩:=we h';intro cs
     let b:Frame:={(default:Frame) with fn:=f,kind:= .normal,roundOf:=none}
     have P5:Frame.enter P f ⟨args'⟩ .normal=b.atR {tmps:=zk,defers:=[]} [.code c]:=by
      simp[Frame.enter,Frame.atR,ER,b,bR6]
     obtain⟨a',w',td,⟨p,hp,ah,g1,g2,g3,g4,g5⟩,GU⟩:=zd (b:=b) (cs:=cs) (ro:=none) ok ba ih (kw _ nt ih) (fun h=>by cases h) aN [] [.code c] cY A fe β {tmps:=zk,defers:=[]} w fq T7 inv trivial trivial;obtain⟨r,eC,bK⟩:=bG p hp;split at eC
     ·rename_i v sK;cases eC;obtain⟨v',ob,cM⟩:=Xq (fn:=⟨nm,Tw,ta,ps,rt,nf,nt,⟨rs⟩,some c,nr,ou,fi,el,ln,me,tn⟩) ok g2 g1 rfl sK;refine⟨.returned v',w',{b.atR a' td with mode:= .returning},⟨(v,p.2),bK _ xn,ah,v',rfl,cM,g2,g3,g4⟩,?_,rfl,rfl,g5,rfl,_,ER,ob⟩;show Steps P (lone (Frame.enter P f ⟨args'⟩ .normal) cs w) _;rw[P5];exact GU
     ·cases eC
    ·cases h'
   ·cases h'
  |dy v=>
   exfalso;have h':(match dL (.dy v) args A with|some o=>some o|none=>none)=some bj:=h;rw[hq] at h';cases h'
  |rd L=>
   intro l hl;have h':(match A.get L with
    |some ⟨.loop .ready fr n ps a b,_,_,_,_⟩=>
     bs (Nat.beq (bI args) (bI ps)&&ey (fun t=>Nat.blt t n) ps) (KL ps args fr (fun fr=>
      kI (x5 E sq (qS E sq bL dL aN depth) n (bL (qS E sq bL dL aN depth) n) (some L) aN [] [.code a,.beginRound,.code b] fr A) (fun p=>PT L p.2))) none
    |_=>none)=some bj:=by
    rw[←h];show _=(match dL (.rd L) args A with|some o=>some o|none=>_);rw[hq];rfl
   clear h;split at h'
   ·rename_i fr n ps x y es ex r ty hg;replace h':=au h';rcases h' with⟨pc,h'⟩|⟨_,h'⟩
    ·rw[xf] at pc;have aC:args.length=ps.length:=by have:=xb pc.1;rw[dA,dA] at this;exact this
     have mR:∀t∈ps,t<n:=fun t ht=>xh (nI _ _ pc.2 t ht)
     obtain⟨rec,k1,k2,k3,k4,k5,k6,k7,k8⟩:=inv.cont L _ l hg hl;obtain⟨cY,hk,T7⟩:=WB ps args args' fr rec.tmps _ iR mR ⟨k7,k8⟩;rw[hk] at h';obtain⟨fe,fq,bG⟩:=we h';have aT:(⟨args'⟩:Array xM).size=rec.params.size:=by rw[k4];simp[←iR.1,aC]
     refine⟨rec.fn,_,rec.assign,rec.body,run_yield k1 aT,trivial,fun c cs _=> ?_⟩
     let b:Frame:={(default:Frame) with fn:=rec.fn,kind:= .normal,roundOf:=some l.b}
     have TO:(rec.params.zip ⟨args'⟩).foldl (fun tmps (p:Nat×xM)=>tmps.setIfInBounds p.1 p.2) rec.tmps=(ps.zip args').foldl (fun tmps (p:Nat×xM)=>tmps.setIfInBounds p.1 p.2) rec.tmps:=by
      rw[k4];simp
     have uP:Frame.round l.b rec.fn ((rec.params.zip ⟨args'⟩).foldl (fun tmps (p:Nat×xM)=>tmps.setIfInBounds p.1 p.2) rec.tmps) rec.assign rec.body .normal=b.atR {tmps:=(ps.zip args').foldl (fun tmps (p:Nat×xM)=>tmps.setIfInBounds p.1 p.2) rec.tmps,defers:=[]} [.code x,.beginRound,.code y]:=by
      rw[TO,k5,k6];simp[Frame.round,Frame.atR,b]
     obtain⟨a',w',td,⟨p,hp,ah,g1,g2,g3,g4,g5⟩,GU⟩:=zd (b:=b) (cs:=c::cs) (ro:=some L) ok ba ih (kw _ n ih) (fun _=>⟨rfl,c,cs,rfl⟩) aN [] [.code x,.beginRound,.code y] cY A fe β {tmps:=(ps.zip args').foldl (fun tmps (p:Nat×xM)=>tmps.setIfInBounds p.1 p.2) rec.tmps,defers:=[]} w fq T7 inv trivial ⟨l,hl,rfl⟩;obtain⟨r,eC,bK⟩:=bG p hp;have ee:ah L=some l:=(g3.f L (inv.g9 L l hl)).trans hl;obtain⟨v,hv,Ad⟩:∃v,r=[(.bool v,p.2)]∧Mn w' b.roundOf= .bool v:=by
      unfold PT at eC;split at eC
      ·rename_i FG;obtain⟨cw6,e1,_,e3,_⟩:=g2.cont L _ l FG ee;cases eC;exact⟨true,rfl,by show(match w'.heap[l.b]? with|some (.loop rec)=>Value.bool rec.pending.isNone|_=> .bool true)=_;rw[e1];simp[e3]⟩
      ·rename_i FG;obtain⟨cw6,e1,_,e3,_⟩:=g2.cont L _ l FG ee;cases eC;exact⟨false,rfl,by show(match w'.heap[l.b]? with|some (.loop rec)=>Value.bool rec.pending.isNone|_=> .bool true)=_;rw[e1];simp[e3]⟩
      ·cases eC
     subst hv;refine⟨.returned (.bool v),w',⟨(.bool v,p.2),bK _ xn,ah,.bool v,rfl,.bool v,g2,g3,g4⟩,?_⟩;unfold Al at GU;simp only [Ad] at GU;refine comesIn_wide.2 ?_;show Steps P (lone (Frame.round l.b rec.fn _ rec.assign rec.body .normal) (c::cs) w) _;refine Eq.mp ?_ GU;rw[←uP]
    ·cases h'
   ·cases h'
end
def bit(m i:Nat):Bool:=Nat.beq (Nat.mod (Nat.div m (Nat.pow 2 i)) 2) 1
theorem u9(m i:Nat):bit m i=m.testBit i:=by
 unfold bit;rw[na,Nat.testBit_eq_decide_div_mod_eq];rfl
def RB(g:Nat→Nat)(i m:Nat):Nat→Nat:=fun k=>bs (Nat.beq k i) m (g k)
def B1(g:Nat→Nat)(l:List Edge):Nat:=
 List.rec (motive:=fun _=>Nat) 0 (fun e _ s=>bs (Region.binds .any e) (Nat.lor s (Nat.lor (Nat.pow 2 e.on) (g e.on))) s) l
def bfF(ops:List Oper):Nat→(Nat→Nat)→(Nat→Nat):=
 List.rec (motive:=fun _=>Nat→(Nat→Nat)→(Nat→Nat)) (fun _ g=>g) (fun o _ ih i g=>ih (Nat.add i 1) (RB g i (B1 g o.after.toList))) ops
def fN(ops:List Oper):Nat→Nat:=bfF ops 0 (fun _=>0)
def AX(ops:List Oper)(D:Nat→Prop):Prop:=∀j oj,ops[j]? =some oj→D j→∀e∈oj.after.toList,Region.binds .any e=true→D e.on
theorem VR(D:Nat→Prop)(g:Nat→Nat)(hg:∀k j,(g k).testBit j=true→D k→D j):∀(l:List Edge),(∀e∈l,Region.binds .any e=true→D e.on)→∀j,(B1 g l).testBit j=true→D j
 |[],_,j,h=>by rw[show B1 g []=0 from rfl,Nat.zero_testBit] at h;cases h
 |e::l,hl,j,h=>by
  have ih:=VR D g hg l (fun x hx=>hl x (xo _ hx)) j;have h':(bs (Region.binds .any e) (Nat.lor (B1 g l) (Nat.lor (Nat.pow 2 e.on) (g e.on))) (B1 g l)).testBit j=true:=h;cases hb:Region.binds .any e with
  |false=>rw[hb,gN] at h';exact ih h'
  |true=>
   rw[hb,eg] at h';have h2:((B1 g l)|||(2^e.on|||g e.on)).testBit j=true:=h';rw[Nat.testBit_or,Nat.testBit_or,Bool.or_eq_true,Bool.or_eq_true] at h2;have hD:=hl e xn hb;rcases h2 with h2|h2|h2
   ·exact ih h2
   ·rw[Nat.testBit_two_pow] at h2;have:e.on=j:=by simpa using h2
    exact this▸hD
   ·exact hg e.on j h2 hD
theorem Wc{ops:List Oper}{D:Nat→Prop}(hD:AX ops D):∀(l:List Oper) (i:Nat) (g:Nat→Nat),(∀k,l[k]? =ops[i+k]?)→(∀k j,(g k).testBit j=true→D k→D j)→∀k j,(bfF l i g k).testBit j=true→D k→D j
 |[],_,_,_,hg=>hg
 |o::l,i,g,hl,hg=>by
  refine Wc hD l (i+1) (RB g i (B1 g o.after.toList)) (fun k=> ?_) (fun k j h hk=> ?_)
  ·have:=hl (k+1);rw[List.getElem?_cons_succ] at this;rw[this]
   congr 1
   omega
  ·unfold RB at h;rw[na] at h;by_cases gz:k=i
   ·rw[decide_eq_true gz,eg] at h;subst gz;have ho:ops[k]? =some o:=by have:=hl 0;simpa using this.symm
    exact VR D g hg _ (hD k o ho hk) j h
   ·rw[decide_eq_false gz,gN] at h;exact hg k j h hk
theorem Oc{ops:List Oper}{D:Nat→Prop}(hD:AX ops D){k j:Nat}(h:bit (fN ops k) j=true)(hk:D k):D j:=by
 rw[u9] at h;exact Wc hD ops 0 (fun _=>0) (fun k=>by simp) (fun k j h=>by rw[Nat.zero_testBit] at h;cases h) k j h hk
theorem C4{ops:List Oper}{D:Nat→Prop}(hD:AX ops D){k j:Nat}{o:Oper}(ho:ops[k]? =some o)(hr:∀e∈o.after.toList,Region.binds .any e=true→D e.on)(h:bit (fN ops k) j=true):D j∨j=k:=by
 have hD':AX ops (fun x=>D x∨x=k):=fun i oi hi hd e he hb=>by
  rcases hd with hd|rfl
  ·exact .inl (hD i oi hi hd e he hb)
  ·rw[ho] at hi;cases hi;exact .inl (hr e he hb)
 exact Oc hD' h (.inr rfl)
structure Tr where
 i:Nat
 dst:Option Tmp
 v:xM
def gU(g:Gt)(dst:Option Tmp)(v:xM):Gt:=match dst with|none=>g|some d=>fun t=>bs (Nat.beq t d) v (g t)
theorem C5(g:Gt)(dst:Option Tmp)(v:xM)(t:Nat):gU g dst v t=if dst=some t then v else g t:=by
 cases dst with
 |none=>rw[if_neg (by simp)];rfl
 |some d=>
  show bs (Nat.beq t d) v (g t)=_;rw[na];by_cases h:t=d
  ·subst h;rw[decide_eq_true rfl,if_pos rfl];rfl
  ·rw[decide_eq_false h,if_neg (fun e=>h (xC e).symm)];rfl
open Classical in
def gv(D:Nat→Prop):List Tr→Gt→Gt
 |[],g0=>g0
 |x::tr,g0=>if D x.i then gU (gv D tr g0) x.dst x.v else gv D tr g0
theorem ww(D:Nat→Prop)(g0:Gt)(t:Nat):∀tr:List Tr,(∃x∈tr,D x.i∧x.dst=some t∧gv D tr g0 t=x.v)∨((∀x∈tr,D x.i→x.dst≠some t)∧gv D tr g0 t=g0 t)
 |[]=> .inr ⟨fun x hx=>(by cases hx),rfl⟩
 |x::tr=>by
  by_cases hD:D x.i
  ·have e:gv D (x::tr) g0 t=gU (gv D tr g0) x.dst x.v t:=by rw[gv,if_pos hD]
   rw[e,C5];by_cases hd:x.dst=some t
   ·rw[if_pos hd];exact .inl ⟨x,xn,hD,hd,rfl⟩
   ·rw[if_neg hd];rcases ww D g0 t tr with⟨y,hy,a,b,c⟩|⟨a,b⟩
    ·exact .inl ⟨y,xo _ hy,a,b,c⟩
    ·refine .inr ⟨fun y hy AS=> ?_,b⟩;cases hy with
     |head=>exact hd
     |tail _ hy=>exact a y hy AS
  ·have e:gv D (x::tr) g0 t=gv D tr g0 t:=by rw[gv,if_neg hD]
   rw[e];rcases ww D g0 t tr with⟨y,hy,a,b,c⟩|⟨a,b⟩
   ·exact .inl ⟨y,xo _ hy,a,b,c⟩
   ·refine .inr ⟨fun y hy AS=> ?_,b⟩;cases hy with
    |head=>exact absurd AS hD
    |tail _ hy=>exact a y hy AS
theorem NW(x:Tr)(tr:List Tr)(g0:Gt):gv (fun _=>True) (x::tr) g0=gU (gv (fun _=>True) tr g0) x.dst x.v:=by
 rw[gv,if_pos trivial]
def nZ(ops:List Oper):List Tr→Prop
 |[]=>True
 |x::tr=>nZ ops tr∧(∀y∈tr,y.i≠x.i)∧∃o,ops[x.i]? =some o∧x.dst=o.dst∧∀e∈o.after.toList,Region.binds .any e=true→∃y∈tr,y.i=e.on
theorem nZ.qE{ops:List Oper}:∀{tr:List Tr},nZ ops tr→AX ops (fun j=>∃y∈tr,y.i=j)
 |[],_=>fun j oj _ ⟨y,hy,_⟩=>by cases hy
 |x::tr,⟨h1,h2,o,ho,hd,he⟩=>fun j oj hj ⟨y,hy,hyj⟩ e vV hb=>by
  cases hy with
  |head=>
   subst hyj;rw[ho] at hj;cases hj;obtain⟨z,hz,Ct⟩:=he e vV hb;exact⟨z,xo _ hz,Ct⟩
  |tail _ hy=>
   obtain⟨z,hz,Ct⟩:=h1.qE j oj hj ⟨y,hy,hyj⟩ e vV hb;exact⟨z,xo _ hz,Ct⟩
theorem nZ.op{ops:List Oper}:∀{tr:List Tr},nZ ops tr→∀x∈tr,∃o,ops[x.i]? =some o∧x.dst=o.dst
 |[],_,x,hx=>by cases hx
 |y::tr,⟨h1,_,o,ho,hd,_⟩,x,hx=>by
  cases hx with
  |head=>exact⟨o,ho,hd⟩
  |tail _ hx=>exact h1.op x hx
theorem nZ.HK{ops:List Oper}:∀{tr:List Tr},nZ ops tr→∀x∈tr,∀y∈tr,x.i=y.i→x=y
 |[],_,x,hx,_,_,_=>by cases hx
 |z::tr,⟨h1,h2,_⟩,x,hx,y,hy,e=>by
  cases hx with
  |head=>cases hy with
   |head=>rfl
   |tail _ hy=>exact absurd e.symm (h2 y hy)
  |tail _ hx=>cases hy with
   |head=>exact absurd e (h2 x hx)
   |tail _ hy=>exact h1.HK x hx y hy e
def Ew(ops:List Oper):Prop:=
 (∀(i:Nat) (oi:Oper) (j:Nat) (oj:Oper) (t:Tmp),ops[i]? =some oi→ops[j]? =some oj→t∈oi.looksAt ⟨ops⟩→oj.dst=some t→j=i∨bit (fN ops i) j=true∨bit (fN ops j) i=true)∧
 (∀(i:Nat) (oi:Oper) (j:Nat) (oj:Oper) (t:Tmp),ops[i]? =some oi→ops[j]? =some oj→oi.dst=some t→oj.dst=some t→i=j)
theorem ac5{ops:List Oper}(hs:Ew ops){D:Nat→Prop}(hD:AX ops D){i:Nat}{o:Oper}(ho:ops[i]? =some o)(hr:∀e∈o.after.toList,Region.binds .any e=true→D e.on)(nw: ¬D i)
 {tr tl pre:List Tr} {x0:Tr} (Cx:tr=pre++x0::tl) (rq:x0.i=i) (hw:nZ ops tr) (TI:nZ ops (x0::tl)) (g0:Gt) {t:Tmp} (ht:t∈o.looksAt ⟨ops⟩):gv D tr g0 t=gv (fun _=>True) tl g0 t:=by
 have sub:∀y∈tl,y∈tr:=fun y hy=>by rw[Cx];exact List.mem_append_right _ (xo _ hy)
 have di4:x0∈tr:=by rw[Cx];exact List.mem_append_right _ xn
 obtain⟨Fw,L9,o',jx,_,bT8⟩:=TI;rw[rq,ho] at jx;cases jx;have cK9:∀j,bit (fN ops i) j=true→j≠i→∃y∈tl,y.i=j:=fun j hb bA=>
  (C4 (Fw.qE) ho bT8 hb).resolve_right bA
 rcases ww D g0 t tr with⟨x,hx,NC,yA,hv⟩|⟨gX,hv⟩
 ·obtain⟨ox,Nl,Ns⟩:=hw.op x hx;have fU:x.i≠i:=fun e=>nw (e▸NC)
  rcases hs.1 i o x.i ox t ho Nl ht (Ns▸yA) with e|e|e
  ·exact absurd e fU
  ·obtain⟨y,hy,Fv⟩:=cK9 x.i e fU;have hyx:y=x:=hw.HK y (sub y hy) x hx Fv;subst hyx;rcases ww (fun _=>True) g0 t tl with⟨z,hz,_,hzt,cM⟩|⟨Sz,_⟩
   ·obtain⟨oz,hoz,hdz⟩:=hw.op z (sub z hz);have:=hs.2 z.i oz y.i ox t hoz Nl (hdz▸hzt) (Ns▸yA);have hzy:z=y:=hw.HK z (sub z hz) y hx this;rw[hv,cM,hzy]
   ·exact absurd yA (Sz y hy trivial)
  ·exact absurd (Oc hD e NC) nw
 ·rcases ww (fun _=>True) g0 t tl with⟨y,hy,_,Fu,_⟩|⟨_,cM⟩
  ·exfalso;obtain⟨oy,TW,IS⟩:=hw.op y (sub y hy);have Fv:y.i≠i:=fun e=>L9 y hy (e.trans rq.symm)
   rcases hs.1 i o y.i oy t ho TW ht (IS▸Fu) with e|e|e
   ·exact Fv e
   ·have AS:=(C4 hD ho hr e).resolve_right Fv;exact gX y (sub y hy) AS Fu
   ·
    have hc:=Fw.qE;obtain⟨z,hz,Ct⟩:=Oc hc e ⟨y,hy,rfl⟩;exact L9 z hz (Ct.trans rq.symm)
  ·rw[hv,cM]
theorem AZ{α γ:Type}{f g:α→γ}:∀{l:List α},(∀x∈l,f x=g x)→ew f l=ew g l
 |[],_=>rfl
 |a::l,h=>by
  show f a::ew f l=g a::ew g l;rw[h a xn,AZ (fun x hx=>h x (xo _ hx))]
theorem Vo{E:aq}{sq:List (Nat×List xO)}{A:AW}{g g':Gt}{op:Op}(h:∀x∈op.operands,ev E g x=ev E g' x):aF E sq A g op=aF E sq A g' op:=by
 cases op
 case move x=>simp only [aF];rw[h x (by simp[Op.operands])]
 case assign x=>simp only [aF];rw[h x (by simp[Op.operands])]
 case pick c a b=>simp only [aF];rw[h c (by simp[Op.operands]),h a (by simp[Op.operands]),h b (by simp[Op.operands])]
 case box t x=>simp only [aF];rw[h x (by simp[Op.operands])]
 case build t ps=>
  obtain⟨ps⟩:=ps;simp only [aF];rw[AZ (fun p hp=>by rw[h p.2 (by simp only [Op.operands,List.mem_toArray,xJ];exact⟨p,hp,rfl⟩)])]
 case buildSlice t n ps=>
  obtain⟨ps⟩:=ps;simp only [aF];rw[AZ (fun p hp=>by rw[h p.2 (by simp only [Op.operands,List.mem_toArray,xJ];exact⟨p,hp,rfl⟩)])]
 case load t a=>simp only [aF];rw[h a (by simp[Op.operands])]
 case store t a v=>simp only [aF];rw[h a (by simp[Op.operands]),h v (by simp[Op.operands])]
 case nilCheck x=>simp only [aF];rw[h x (by simp[Op.operands])]
 case binOp o t x y ty=>simp only [aF];rw[h x (by simp[Op.operands]),h y (by simp[Op.operands])]
 case unOp o t x=>simp only [aF];rw[h x (by simp[Op.operands])]
 case convert s d x=>simp only [aF];rw[h x (by simp[Op.operands])]
 case makeFunc fn p q=>
  obtain⟨p⟩:=p;obtain⟨q⟩:=q;cases fn<;>simp only [aF]
  rw[AZ (fun x hx=>h x (by simp[Op.operands,hx])),AZ (l:=q) (fun x hx=>h x (by simp[Op.operands,hx]))]
 case makeSlice t l c=>simp only [aF];rw[h l (by simp[Op.operands]),h c (by simp[Op.operands])]
 case slice t x lo hi mx=>
  simp only [aF];rw[h x (by simp[Op.operands])];have e1:lo.map (ev E g)=lo.map (ev E g'):=by cases lo with|none=>rfl|some y=>exact congrArg some (h y (by simp[Op.operands]))
  have e2:hi.map (ev E g)=hi.map (ev E g'):=by cases hi with|none=>rfl|some y=>exact congrArg some (h y (by simp[Op.operands]))
  have e3:mx.map (ev E g)=mx.map (ev E g'):=by cases mx with|none=>rfl|some y=>exact congrArg some (h y (by simp[Op.operands]))
  rw[e1,e2,e3]
 case fieldAddr t x f=>simp only [aF];rw[h x (by simp[Op.operands])]
 case field t x f=>simp only [aF];rw[h x (by simp[Op.operands])]
 case indexAddr t x i=>simp only [aF];rw[h x (by simp[Op.operands]),h i (by simp[Op.operands])]
 case index t x i=>simp only [aF];rw[h x (by simp[Op.operands]),h i (by simp[Op.operands])]
 case extract x i=>simp only [aF];rw[h x (by simp[Op.operands])]
 case call c=>
  obtain⟨wI,⟨args⟩,tys⟩:=c;have iR:∀x∈args,ev E g x=ev E g' x:=fun x hx=>h x (by simp[Op.operands,Call.operands,hx])
  cases wI with
  |value f=>
   simp only [aF];rw[h f (by simp[Op.operands,Call.operands]),AZ iR]
  |invoke r m=>simp only [aF]
  |builtin b=>
   obtain⟨tys⟩:=tys;simp only [aF];rw[AZ iR]
 case makeMap t r=>
  simp only [aF];have e1:r.map (ev E g)=r.map (ev E g'):=by cases r with|none=>rfl|some y=>exact congrArg some (h y (by simp[Op.operands]))
  rw[e1]
 case lookup t x k b=>simp only [aF];rw[h x (by simp[Op.operands]),h k (by simp[Op.operands])]
 case mapUpdate t m k x=>simp only [aF];rw[h m (by simp[Op.operands]),h k (by simp[Op.operands]),h x (by simp[Op.operands])]
 case insert t m k x=>simp only [aF];rw[h m (by simp[Op.operands]),h k (by simp[Op.operands]),h x (by simp[Op.operands])]
 case mapEntry t m k=>simp only [aF];rw[h m (by simp[Op.operands]),h k (by simp[Op.operands])]
 case entryStore t m k x=>simp only [aF];rw[h m (by simp[Op.operands]),h k (by simp[Op.operands]),h x (by simp[Op.operands])]
 case range t x=>simp only [aF];rw[h x (by simp[Op.operands])]
 case next it b=>
  cases b
  ·simp only [aF];rw[h it (by simp[Op.operands])]
  ·simp only [aF]
 case entry it=>simp only [aF];rw[h it (by simp[Op.operands])]
 all_goals simp only [aF]
theorem aI5{E:aq}{sq:List (Nat×List xO)}{g g':Gt}{op:Op}(h:∀x∈op.operands,ev E g x=ev E g' x):keyOf E sq g op=keyOf E sq g' op:=by
 cases op
 case binOp b t x y ty=>simp only [keyOf];rw[h x (by simp[Op.operands]),h y (by simp[Op.operands])]
 case unOp u t x=>simp only [keyOf];rw[h x (by simp[Op.operands])]
 case convert s d x=>simp only [keyOf];rw[h x (by simp[Op.operands])]
 case index t x i=>simp only [keyOf];rw[h x (by simp[Op.operands]),h i (by simp[Op.operands])]
 case indexAddr t x i=>simp only [keyOf];rw[h x (by simp[Op.operands]),h i (by simp[Op.operands])]
 case fieldAddr t x f=>simp only [keyOf];rw[h x (by simp[Op.operands])]
 case load t x=>simp only [keyOf];rw[h x (by simp[Op.operands])]
 case nilCheck x=>simp only [keyOf];rw[h x (by simp[Op.operands])]
 case slice t x lo hi mx=>
  cases mx with
  |some y=>rfl
  |none=>
   simp only [keyOf];have e1:sV E g lo=sV E g' lo:=by cases lo with|none=>rfl|some y=>exact h y (by simp[Op.operands])
   have e2:uJ E g hi=uJ E g' hi:=by cases hi with|none=>rfl|some y=>exact congrArg (fun v=>[v]) (h y (by simp[Op.operands]))
   rw[h x (by simp[Op.operands]),e1,e2]
 case call c=>
  obtain⟨wI,⟨args⟩,⟨tys⟩⟩:=c;cases wI with
  |builtin b=>
   cases b
   case len=>
    match args,tys with
    |[x],[t]=>simp only [keyOf];rw[h x (by simp[Op.operands,Call.operands])]
    |[],_=>rfl
    |_::_::_,_=>rfl
    |[_],[]=>rfl
    |[_],_::_::_=>rfl
   case max=>
    simp only [keyOf];rw[l8,l8,List.map_congr_left fun x hx=>h x (by simp[Op.operands,Call.operands,hx])]
   case min=>
    simp only [keyOf];rw[l8,l8,List.map_congr_left fun x hx=>h x (by simp[Op.operands,Call.operands,hx])]
   all_goals rfl
  |_=>rfl
 all_goals rfl
theorem aH8{E:aq}{sq:List (Nat×List xO)}{g g':Gt}{op:Op}(h:∀x∈op.operands,ev E g x=ev E g' x)(nd:Node):zl E sq g op nd=zl E sq g' op nd:=by
 unfold zl;rw[aI5 h]
theorem aL1{E:aq}{A:AW}{g g':Gt}{op:Op}(h:∀x∈op.operands,ev E g x=ev E g' x):z8 E A g op=z8 E A g' op:=by
 unfold z8;split
 ·rename_i x t;rw[h x (by simp[Op.operands,Call.operands])]
 ·rename_i t x i;rw[h x (by simp[Op.operands]),h i (by simp[Op.operands])]
 ·rename_i t x;rw[h x (by simp[Op.operands])]
 ·rename_i s d x;rw[h x (by simp[Op.operands])]
 ·rfl
theorem U1{E:aq}{sq:List (Nat×List xO)}{A:AW}{g g':Gt}{op:Op}(h:∀x∈op.operands,ev E g x=ev E g' x)(nd:Node):pF E sq A g op nd=pF E sq A g' op nd:=by
 unfold pF;rw[aL1 h,aH8 h]
theorem U2{E:aq}{A:AW}{g g':Gt}{op:Op}(h:∀x∈op.operands,ev E g x=ev E g' x):sD E A g op=sD E A g' op:=by
 unfold sD;split
 ·rename_i s x t tx;rw[h s (by simp[Op.operands,Call.operands]),h x (by simp[Op.operands,Call.operands])]
 ·rename_i t x y;rw[h x (by simp[Op.operands]),h y (by simp[Op.operands])]
 ·rename_i t x y;rw[h x (by simp[Op.operands]),h y (by simp[Op.operands])]
 ·rename_i s d x;rw[h x (by simp[Op.operands])]
 ·rename_i x ts;rw[h x (by simp[Op.operands,Call.operands])]
 ·rename_i x y t ti;rw[h x (by simp[Op.operands,Call.operands]),h y (by simp[Op.operands,Call.operands])]
 ·rename_i t x lo hi;have e1:sV E g lo=sV E g' lo:=by cases lo with|none=>rfl|some y=>exact h y (by simp[Op.operands])
  have e2:uJ E g hi=uJ E g' hi:=by cases hi with|none=>rfl|some y=>exact congrArg (fun v=>[v]) (h y (by simp[Op.operands]))
  rw[h x (by simp[Op.operands]),e1,e2]
 ·rename_i d x t tx;rw[h d (by simp[Op.operands,Call.operands]),h x (by simp[Op.operands,Call.operands])]
 ·rename_i f x ts;rw[h f (by simp[Op.operands,Call.operands]),h x (by simp[Op.operands,Call.operands])]
 ·rfl
 ·rename_i t m k x;rw[h m (by simp[Op.operands]),h k (by simp[Op.operands]),h x (by simp[Op.operands])]
 ·rfl
theorem aI3{E:aq}{g g':Gt}{op:Op}(h:∀x∈op.operands,ev E g x=ev E g' x):KO E g op=KO E g' op:=by
 unfold KO;split
 ·rename_i x y _;rw[h x (by simp[Op.operands,Call.operands])]
 ·rfl
 ·rfl
theorem aP0{E:aq}{sq:List (Nat×List xO)}{A:AW}{g g':Gt}{op:Op}(h:∀x∈op.operands,ev E g x=ev E g' x):ju E sq A g op=ju E sq A g' op:=by
 unfold ju;rw[GL,GL,Vo h,aK3 (U1 h),U2 h,aI3 h];split
 ·rw[U2 h]
 ·rfl
theorem aY3{E:aq}{g g':Gt}{x:Operand}(h:∀t,x= .tmp t→g t=g' t):ev E g x=ev E g' x:=by
 cases x with
 |tmp t=>exact h t rfl
 |_=>rfl
end
end Go.Ex
