/- A verified evaluator of Go functions. -/
import Derived.Test.YthicpeihkkokmaaGreatDoorX6
import Derived.OrdersIn
import Derived.TacticsIn
import Derived.RangeFuncRecord
import Derived.Orders
set_option linter.unusedVariables false
set_option linter.unusedSimpArgs false
namespace Go.Ex
open Go.RowKit
noncomputable section
def T.lG{α:Type}{ρ:Type}(t:T α):Nat->α->(T α->ρ)->ρ:=
 T.rec (motive:=fun _=>Nat->α->(T α->ρ)->ρ) (fun _ _ k=>k .nil)
  (fun l v r sl sr n x k=>Nat.rec (motive:=fun _=>ρ) (k (.node l x r)) (fun p _=>Nat.rec (motive:=fun _=>ρ) (sl (Nat.div p 2) x (fun l'=>k (.node l' v r))) (fun _ _=>sr (Nat.div p 2) x (fun r'=>k (.node l v r'))) (Nat.mod p 2)) n) t
theorem T.I8{α ρ:Type}(t:T α):∀(n:Nat) (x:α) (k:T α->ρ),t.lG n x k=k (t.set n x):=by
 induction t with
 |nil=>intro n x k;rfl
 |node l v r hl hr=>
  intro n x k;cases n with
  |zero=>rfl
  |succ p=>
   show Nat.rec (motive:=fun _=>ρ) (l.lG (p/2) x (fun l'=>k (.node l' v r))) (fun _ _=>r.lG (p/2) x (fun r'=>k (.node l v r'))) (Nat.mod p 2)=
    k (Nat.rec (motive:=fun _=>T α) (.node (l.set (p/2) x) v r) (fun _ _=> .node l v (r.set (p/2) x)) (Nat.mod p 2))
   rw[hl,hr,lW,lW];split<;>rfl
def CU{ρ:Type}(n:Nat)(k:Nat->ρ):ρ:=Nat.rec (motive:=fun _=>ρ) (k 0) (fun p _=>k (Nat.succ p)) n
theorem IJ{ρ:Type}(n:Nat)(k:Nat->ρ):CU n k=k n:=by cases n<;>rfl
def yj{ρ:Type}(v:xM)(k:xM->ρ):ρ:=
 C0 (ρ:=(xM->ρ)->ρ) (fun b _ k=>bs b (k (.bool true)) (k (.bool false)))
  (fun kd n _ k=>Int.rec (motive:=fun _=>ρ) (fun m=>CU m (fun m=>k (.int kd (.ofNat m)))) (fun m=>CU m (fun m=>k (.int kd (.negSucc m)))) n)
  (fun _ v k=>k v) (fun _ v k=>k v) (fun _ _ _ v k=>k v) (fun _ v k=>k v) (fun v k=>k v) v v k
theorem Fc{ρ:Type}(v:xM)(k:xM->ρ):yj v k=k v:=by
 cases v with
 |bool b=>cases b<;>rfl
 |int kd n=>
  cases n with
  |ofNat m=>exact IJ m (fun m=>k (.int kd (.ofNat m)))
  |negSucc m=>exact IJ m (fun m=>k (.int kd (.negSucc m)))
 |_=>rfl
def vm{ρ:Type}(A:AW)(k:AW->ρ):ρ:=match A with|⟨h,n,tp⟩=>CU n (fun n=>match h with| .nil=>k ⟨.nil,n,tp⟩| .node a b c=>k ⟨.node a b c,n,tp⟩)
theorem Fe{ρ:Type}(A:AW)(k:AW->ρ):vm A k=k A:=by
 obtain⟨h,n,tp⟩:=A
 grind [vm,IJ]
abbrev bp(α:Type):=Option (List (α×AW))
def QU{α γ:Type}(f:α->Option (List γ))(l:List α):Option (List γ):=
 List.rec (motive:=fun _=>Option (List γ)) (some []) (fun a _ ih=>match f a with|none=>none|some r=>match ih with|none=>none|some q=>some (iR r q)) l
def kY{α γ:Type}(x:Option (List α))(f:α->Option (List γ)):Option (List γ):=
 match x with
 |none=>none
 |some [a]=>f a
 |some l=>QU f l
theorem VH{α γ:Type}{f:α->Option (List γ)}:∀{l:List α} {q:List γ},QU f l=some q->∀a∈l,∃r,f a=some r/\∀c∈r,c∈q
 |[],_,_,a,ha=>by cases ha
 |b::l,q,h,a,ha=>by
  have h':(match f b with|none=>none|some r=>match QU f l with|none=>none|some q=>some (iR r q))=some q:=h;clear h;split at h'
  ·cases h'
  ·rename_i r hr;split at h'
   ·cases h'
   ·rename_i q2 qF;cases h';cases ha with
    |head=>grind [mQ,List.mem_append_left]
    |tail _ ha=>
     obtain⟨r2,h1,h2⟩:=VH qF a ha
     grind [mQ,List.mem_append_right]
theorem uT{α γ:Type}{x:Option (List α)}{f:α->Option (List γ)}{q:List γ}(h:kY x f=some q):∃l,x=some l/\∀a∈l,∃r,f a=some r/\∀c∈r,c∈q:=by
 unfold kY at h;split at h
 ·cases h
 ·grind
 ·rename_i l _;exact⟨l,rfl,VH h⟩
def qu{γ:Type}(n:Nat)(fr:Fr)(dst:Option Tmp)(v:xM)(k:Fr->Option (List γ)):Option (List γ):=
 Option.rec (motive:=fun _=>Nat->Fr->xM->(Fr->Option (List γ))->Option (List γ)) (fun _ fr _ k=>k fr)
  (fun d n fr v k=>Bool.rec (motive:=fun _=>Option (List γ)) none (yj v (fun v=>fr.lG d v k)) (Nat.ble (Nat.succ d) n)) dst n fr v k
def pB(ops:HF)(fr:Gt)(o:Oper):Option Bool:=
 match o.guard with
 |none=>some true
 |some (j,want)=>match dM ops j with
  |some g=>match g.dst with
   |some t=>match fr t with
    | .bool b=>some (bs b want (not want))
    | .chan _=>none
    |_=>some false
   |none=>some false
  |none=>some false
abbrev Hq:=(eL->C3->AW->bp xM)->Nat->Oper->(Fr->AW->bp Fr)->Fr->AW->bp Fr
def bD9(r:R):Hq:=
 R.rec (motive:=fun _=>Hq)
  (fun _ _ _ _ _ _=>none)
  (fun v A' _ n o ih fr _=>qu n fr o.dst v (fun fr=>vm A' (fun A'=>ih fr A')))
  (fun f args call n o ih fr A=>kY (call f args A) (fun p=>qu n fr o.dst p.1 (fun fr=>ih fr p.2)))
  (fun q _ n o ih fr _=>kY (some q) (fun p=>qu n fr o.dst p.1 (fun fr=>ih fr p.2))) r
def al6(w:Option Bool):R->Hq:=
 Option.rec (motive:=fun _=>R->Hq) (fun _ _ _ _ _ _ _=>none)
  (Bool.rec (motive:=fun _=>R->Hq) (fun _ _ n o ih fr A=>qu n fr o.dst undef (fun fr=>ih fr A)) bD9) w
theorem aU1(w:Option Bool)(r:R)(call:eL->C3->AW->bp xM)(n:Nat)(o:Oper)(ih:Fr->AW->bp Fr)(fr:Fr)(A:AW):al6 w r call n o ih fr A=match w with
 |none=>none
 |some false=>qu n fr o.dst undef (fun fr=>ih fr A)
 |some true=>match r with
  | .fail=>none
  | .val v A'=>qu n fr o.dst v (fun fr=>vm A' (fun A'=>ih fr A'))
  | .call f args=>kY (call f args A) (fun p=>qu n fr o.dst p.1 (fun fr=>ih fr p.2))
  | .nd q=>kY (some q) (fun p=>qu n fr o.dst p.1 (fun fr=>ih fr p.2)):=by
 cases w with
 |none=>rfl
 |some b=>
  cases b with
  |false=>rfl
  |true=>cases r<;>rfl
section
variable(E:az)(sq:Cf)(call:eL->C3->AW->bp xM)(n:Nat)
def sh(ops:HF)(l:HF):Fr->AW->bp Fr:=
 List.rec (motive:=fun _=>Fr->AW->bp Fr) (fun fr A=>some [(fr,A)])
  (fun o _ ih fr A=>al6 (pB ops (fr.get J) o) (iL E sq A (fr.get J) o.op) call n o ih fr A) l
def P0(ms:Es):AW->Option AW:=
 List.rec (motive:=fun _=>AW->Option AW) (fun A=>some A) (fun D _ ih A=>match A.get D with
  |some ⟨.wO,_,_,_,_⟩=>bs (Nat.ble E.G.n D) (ih (A.put D none)) none
  |_=>none) ms
def Zh(j:Option Code):Uo:=match j with|none=> .ready|some j=> .done j
def JP(j:Uo)(L:Nat)(fr:Fr)(A:AW):bp Fr:=
 match A.get L with
 |some ⟨.loop .busy t m ps a b,es,ex,r,ty⟩=>bs (Nat.ble E.G.n L) (some [(fr,A.put L (some ⟨.loop j t m ps a b,es,ex,r,ty⟩))]) none
 |_=>none
def DX(ro:Ji)(ms:Es)(fr:Fr)(A:AW):bp Fr:=
 match ro with
 |none=>match P0 E ms A with
  |some A'=>some [(fr,A')]
  |none=>none
 |some L=>JP E .ready L fr A
def yt(ro:Ji)(j:Code)(fr:Fr)(A:AW):bp Fr:=
 match ro with
 |none=>none
 |some L=>JP E (.done j) L fr A
def Pd(ih:List Nat->List Item->Fr->AW->bp Fr)(ms:Es)(f:Operand)(ps:Es)(a b:Code)(k:List Item)(fr:Fr)(A:AW):bp Fr:=
 match yA E A (ev E (fr.get J) f) [.func (.yield (Nat.add A.next 1)) ⟨[]⟩ ⟨[]⟩] with
 | .call (.fn g) args=>bs (Nat.ble E.G.n A.next) (kY (call (.fn g) args ((A.add ⟨.wO,0,true,false,0⟩).add ⟨.loop .ready fr n ps a b,0,true,false,0⟩)) (fun p=>
  match p.2.get (Nat.add A.next 1) with
  |some ⟨.loop .ready _ _ _ _ _,_,_,_,_⟩=>ih (A.next::ms) k fr (p.2.put (Nat.add A.next 1) none)
  |some ⟨.loop (.done j) _ _ _ _ _,_,_,_,_⟩=>ih (A.next::ms) (.code j::k) fr (p.2.put (Nat.add A.next 1) none)
  |_=>none)) none
 |_=>none
def Y1(bO:HF->Fr->AW->bp Fr)(ro:Ji)(ih:List Nat->List Item->Fr->AW->bp Fr)(ms:Es)(eI:List Item)(fr:Fr)(A:AW):bp Fr:=
 match eI with
 |[]=>DX E ro ms fr A
 | .code .ret::_=>match ro with|none=>DX E none ms fr A|some L=>yt E (some L) .ret fr A
 | .code .skip::k=>ih ms k fr A
 | .code (.label _)::k=>ih ms k fr A
 | .code (.seq a b)::k=>ih ms (.code a:: .code b::k) fr A
 | .code (.cond c x y)::k=>match ev E (fr.get J) c with
  | .bool b=>ih ms (.code (bs b x y)::k) fr A
  |_=>none
 | .code (.block id c)::k=>ih ms (.code c:: .inBlock id::k) fr A
 | .code (.loop c)::k=>ih ms (.code c:: .inLoop c::k) fr A
 | .code (.scope c)::k=>ih ms (.code c:: .inScope c::k) fr A
 | .code (.exit id)::k=>match exitTo id k with|some k'=>ih ms k' fr A|none=>yt E ro (.exit id) fr A
 | .code (.goto l)::k=>match gotoIn l k with|some k'=>ih ms k' fr A|none=>yt E ro (.goto l) fr A
 | .code (.region _ ⟨ops⟩ false)::k=>kY (sh E sq call n ops ops fr A) (fun p=>ih ms k p.1 p.2)
 | .code (.region _ ⟨ops⟩ true)::k=>kY (bO ops fr A) (fun p=>ih ms k p.1 p.2)
 | .code (.rangeFunc f ⟨ps⟩ a b)::k=>match ro with|none=>Pd E call n ih ms f ps a b k fr A|some _=>none
 | .beginRound::k=>match ro with
  |none=>none
  |some L=>match A.get L with
   |some ⟨.loop .ready t m ps a b,es,ex,r,ty⟩=>bs (Nat.ble E.G.n L) (ih ms k fr (A.put L (some ⟨.loop .busy t m ps a b,es,ex,r,ty⟩))) none
   |_=>none
 | .inBlock _::k=>ih ms k fr A
 | .inScope _::k=>ih ms k fr A
 | .inLoop c::k=>ih ms (.code c:: .inLoop c::k) fr A
 |_=>none
abbrev KQ:=List Item->az->Cf->(eL->C3->AW->bp xM)->Nat->(HF->Fr->AW->bp Fr)->Ji->(List Nat->List Item->Fr->AW->bp Fr)->Es->Fr->AW->bp Fr
def bg1(E:az)(ro:Ji)(ih:List Nat->List Item->Fr->AW->bp Fr)(ms:Es)(k:List Item)(fr:Fr)(A:AW):bp Fr:=
 match ro with
  |none=>none
  |some L=>match A.get L with
   |some ⟨.loop .ready t m ps a b,es,ex,r,ty⟩=>bs (Nat.ble E.G.n L) (ih ms k fr (A.put L (some ⟨.loop .busy t m ps a b,es,ex,r,ty⟩))) none
   |_=>none
def br6(c:Code):KQ:=
 Code.rec (motive:=fun _=>KQ)
  (fun k _ _ _ _ _ _ ih ms fr A=>ih ms k fr A)
  (fun _ ops dr k E sq call n bO _ ih ms fr A=>bs dr (kY (bO ops.toList fr A) (fun p=>ih ms k p.1 p.2)) (kY (sh E sq call n ops.toList ops.toList fr A) (fun p=>ih ms k p.1 p.2)))
  (fun a b _ _ k _ _ _ _ _ _ ih ms fr A=>ih ms (.code a:: .code b::k) fr A)
  (fun c x y _ _ k E _ _ _ _ _ ih ms fr A=>match ev E (fr.get J) c with| .bool b=>ih ms (.code (bs b x y)::k) fr A|_=>none)
  (fun id c _ k _ _ _ _ _ _ ih ms fr A=>ih ms (.code c:: .inBlock id::k) fr A)
  (fun c _ k _ _ _ _ _ _ ih ms fr A=>ih ms (.code c:: .inLoop c::k) fr A)
  (fun f ps a b _ _ k E _ call n _ ro ih ms fr A=>match ro with|none=>Pd E call n ih ms f ps.toList a b k fr A|some _=>none)
  (fun id k E _ _ _ _ ro ih ms fr A=>match exitTo id k with|some k'=>ih ms k' fr A|none=>yt E ro (.exit id) fr A)
  (fun c _ k _ _ _ _ _ _ ih ms fr A=>ih ms (.code c:: .inScope c::k) fr A)
  (fun _ k _ _ _ _ _ _ ih ms fr A=>ih ms k fr A)
  (fun l k E _ _ _ _ ro ih ms fr A=>match gotoIn l k with|some k'=>ih ms k' fr A|none=>yt E ro (.goto l) fr A)
  (fun _ E _ _ _ _ ro _ ms fr A=>match ro with|none=>DX E none ms fr A|some L=>yt E (some L) .ret fr A)
  (fun _ _ _ _ _ _ _ _ _ _ _ _=>none) c
def bl9(i:Item):KQ:=
 Item.rec (motive:=fun _=>KQ)
  (fun c=>br6 c)
  (fun _ k _ _ _ _ _ _ ih ms fr A=>ih ms k fr A)
  (fun c k _ _ _ _ _ _ ih ms fr A=>ih ms (.code c:: .inLoop c::k) fr A)
  (fun _ k _ _ _ _ _ _ ih ms fr A=>ih ms k fr A)
  (fun _ _ _ _ _ _ _ _ _ _ _ _ _=>none)
  (fun _ _ _ _ _ _ _ _ _ _ _ _=>none)
  (fun _ _ _ _ _ _ _ _ _ _ _ _=>none)
  (fun k E _ _ _ _ ro ih ms fr A=>bg1 E ro ih ms k fr A)
  (fun _ _ _ _ _ _ _ _ _ _ _ _ _ _ _=>none)
  (fun _ _ _ _ _ _ _ _ _ _ _ _ _=>none) i
def P2(bO:HF->Fr->AW->bp Fr)(ro:Ji)(ih:List Nat->List Item->Fr->AW->bp Fr)(ms:Es)(eI:List Item)(fr:Fr)(A:AW):bp Fr:=
 List.rec (motive:=fun _=>az->Cf->(eL->C3->AW->bp xM)->Nat->(HF->Fr->AW->bp Fr)->Ji->(List Nat->List Item->Fr->AW->bp Fr)->Es->Fr->AW->bp Fr)
  (fun E _ _ _ _ ro _ ms fr A=>DX E ro ms fr A) (fun i k _=>bl9 i k) eI E sq call n bO ro ih ms fr A
theorem aC6(bO:HF->Fr->AW->bp Fr)(ro:Ji)(ih:List Nat->List Item->Fr->AW->bp Fr)(ms:Es)(eI:List Item)(fr:Fr)(A:AW):P2 E sq call n bO ro ih ms eI fr A=Y1 E sq call n bO ro ih ms eI fr A:=by
 cases eI with
 |nil=>rfl
 |cons i k=>
  cases i with
  |code c=>
   cases c with
   |region id ops dr=>obtain⟨ops⟩:=ops;cases dr<;>rfl
   |rangeFunc f ps a b=>obtain⟨ps⟩:=ps;rfl
   |_=>rfl
  |_=>rfl
def vG(bO:HF->Fr->AW->bp Fr)(ro:Ji)(aT:Nat):List Nat->List Item->Fr->AW->bp Fr:=
 Nat.rec (motive:=fun _=>List Nat->List Item->Fr->AW->bp Fr) (fun _ _ _ _=>none) (fun _ ih=>P2 E sq call n bO ro ih) aT
end
def KP{ρ:Type}(l:C3):Nat->Fr->(Fr->ρ)->ρ:=
 List.rec (motive:=fun _=>Nat->Fr->(Fr->ρ)->ρ) (fun _ fr k=>k fr) (fun v _ ih i fr k=>fr.lG i v (fun fr=>ih (Nat.add i 1) fr k)) l
def Rc(E:az)(fr:Fr)(A:AW)(l:List ResultVar):Option (List xM):=
 List.rec (motive:=fun _=>Option (List xM)) (some [])
  (fun r _ ih=>match(match r with| .tmp t=>some (fr.get J t)| .cell a t=>yr E A t (fr.get J a)),ih with
   |some v,some vs=>some (v::vs)
   |_,_=>none) l
def GO(E:az)(fr:Fr)(A:AW)(l:List ResultVar):JJ:=
 match Rc E fr A l with
 |some [v]=>some v
 |some vs=>some (.tuple ⟨vs⟩)
 |none=>none
def Kd{ρ:Type}(ps:Es):C3->Fr->(Fr->ρ)->ρ:=
 List.rec (motive:=fun _=>C3->Fr->(Fr->ρ)->ρ) (fun _ fr k=>k fr) (fun t _ ih args fr k=>match args with
  |[]=>k fr
  |v::vs=>fr.lG t v (fun fr=>ih vs fr k)) ps
def Pc(L:Nat)(A:AW):bp xM:=
 match A.get L with
 |some ⟨.loop .ready _ _ _ _ _,_,_,_,_⟩=>some [(.bool true,A)]
 |some ⟨.loop (.done _) _ _ _ _ _,_,_,_,_⟩=>some [(.bool false,A)]
 |_=>none
def AH(E:az)(sq:Cf)(bO:(eL->C3->AW->bp xM)->Nat->List Oper->Fr->AW->bp Fr)(pg:eL->C3->AW->bp xM)(aT depth:Nat):eL->C3->AW->bp xM:=
 Nat.rec (motive:=fun _=>eL->C3->AW->bp xM) (fun _ _ _=>none)
  (fun _ ih t args A=>match pg t args A with
   |some o=>some o
   |none=>match t with
   | .fn f=>match E.fn.get none f with
    |some ⟨_,_,_,_,_,_,nt,⟨rs⟩,some c,_,_,_,_,_,_,_⟩=>
     bs (Nat.ble (bT args) nt) (KP args 0 (T.full undef (Nat.add (Nat.log2 (Nat.add nt 1)) 1)) (fun fr=>
      kY (vG E sq ih nt (bO ih nt) none aT [] [.code c] fr A) (fun p=>match GO E p.1 p.2 rs with|some v=>some [(v,p.2)]|none=>none))) none
    |_=>none
   | .rd L=>match A.get L with
    |some ⟨.loop .ready fr n ps a b,_,_,_,_⟩=>
     bs (Nat.beq (bT args) (bT ps)&&fb (fun t=>Nat.blt t n) ps) (Kd ps args fr (fun fr=>
      kY (vG E sq ih n (bO ih n) (some L) aT [] [.code a,.beginRound,.code b] fr A) (fun p=>Pc L p.2))) none
    |_=>none) depth
section
variable{α:Type}
def alt(l:List α):Bool->List α:=
 List.rec (motive:=fun _=>Bool->List α) (fun _=>[]) (fun a _ ih b=>bs b (a::ih false) (ih true)) l
def yY(k:Nat):List α->T (Option α):=
 Nat.rec (motive:=fun _=>List α->T (Option α)) (fun _=> .nil) (fun _ ih l=>List.rec (motive:=fun _=>T (Option α)) .nil (fun a r _=> .node (ih (alt r true)) (some a) (ih (alt r false))) l) k
theorem CE(l:List α):∀(b:Bool) (m:Nat),(alt l b)[m]? =l[2*m+(if b then 0 else 1)]? :=by
 induction l with
 |nil=>intro b m;simp[alt]
 |cons a l ih=>
  intro b m;cases b with
  |true=>
   show(a::alt l false)[m]? =_;cases m with
   |zero=>simp
   |succ m=>rw[List.getElem?_cons_succ,ih false m,if_pos rfl,Nat.add_zero,show 2*(m+1)=(2*m+1)+1 by omega,List.getElem?_cons_succ];simp
  |false=>
   show(alt l true)[m]? =_;rw[ih true m];simp
theorem Fw:∀(k:Nat) (l:List α) (i:Nat) (x:α),(yY k l).get none i=some x->l[i]? =some x
 |0,l,i,x,h=>by cases h
 |k+1,[],i,x,h=>by cases h
 |k+1,a::r,i,x,h=>by
  have h':(T.node (yY k (alt r true)) (some a) (yY k (alt r false))).get none i=some x:=h;rw[T.ky] at h';split at h'
  ·rename_i h0;subst h0;simpa using h'
  ·split at h'
   ·have:=Fw k _ _ _ h';rw[CE] at this;rw[show i=2*(i/2)+1 by omega,List.getElem?_cons_succ];simpa using this
   ·have:=Fw k _ _ _ h';rw[CE] at this;rw[show i=(2*(i/2 - 1)+1)+1 by omega,List.getElem?_cons_succ];simpa using this
end
def Q9(ts:List TypeInfo)(d:TypeDesc):Option TypeDesc:=
 match d with
 | .named _ u=>match dM ts u with|some i=>some i.desc|none=>none
 |d=>some d
def Dz(d:TypeDesc)(z:JJ):C3×Bool:=
 match z with
 |some (.agg ⟨l⟩)=>bs (mT d) (l,true) ([],false)
 |some (.tuple _)=>([],false)
 |some v=>bs (mT d) ([],false) ([v],true)
 |none=>([],false)
def Kc(ts:List TypeInfo)(i:TypeInfo):Option Row:=
 match Q9 ts i.desc with
 |some d=>some ⟨d,i.size,i.bytes,(Dz d i.zero).1,(Dz d i.zero).2⟩
 |none=>none
def join(t:T (Option (Option Row))):T (Option Row):=
 T.rec (motive:=fun _=>T (Option Row)) .nil (fun _ v _ l r=> .node l (match v with|some x=>x|none=>none) r) t
def Zg(P:Program)(G:GP)(ne:Es)(lay:List (Nat×Nat×Nat))(mz:List (Nat×Nat):=[]):az where
 ti:=join (yY 11 (fC (Kc P.types.toList) P.types.toList))
 fn:=yY 10 P.funcs.toList
 ne:=ne
 mz:=mz
 lay:=lay
 G:=G
abbrev kg(ro:Ji):Fence:={Fence.wide with round:=ro}
theorem P'(ro:Ji)(n:Nat):(kg ro).room n:=fun _ h=>by simp[Fence.wide] at h
theorem bf3{ro:Ji}{n:Nat}{P:Program}{f:FuncId}{args:KB}{w:World}{R:Ending->World->Prop}(h:Calls P f args w R):CallsIn (kg ro) n P f args w R:=
 (callsIn_wide.2 h:CallsIn Fence.wide n P f args w R)
theorem aW5{ro:Ji}{n:Nat}{P:Program}{l:Nat}{f:FuncId}{tmps:KB}{a b:Code}{w:World}{R:Ending->World->Prop}(h:RoundIn Fence.wide n P l f tmps a b w R):RoundIn (kg ro) n P l f tmps a b w R:=h
def oZ(w0:World)(G:GP)(n:Nat)(β:ai)(A:AW)(ds:List Deferred)(bt:List (Fr×AW))(a':Act)(w':World):Prop:=
 ∃p∈bt,∃β',bU β' n (p.1.get J) a'.tmps/\Inv w0 G β' p.2 w'/\β.grow β' A.next/\A.next<=p.2.next/\a'.defers=ds
def aa0(w0:World)(G:GP)(β:ai)(A:AW)(bt:List (xM×AW))(e:Ending)(w':World):Prop:=
 ∃p∈bt,∃β' v',e= .returned v'/\aj β' p.1 v'/\Inv w0 G β' p.2 w'/\β.grow β' A.next/\A.next<=p.2.next
def mc(P:Program)(E:az)(call:eL->C3->AW->bp xM):Prop:=
 ∀w0 t args A bt β w args',call t args A=some bt->Inv w0 E.G β A w->aZ β args args'->
  match t with
  | .fn f=>Calls P f ⟨args'⟩ w (aa0 w0 E.G β A bt)
  | .rd L=>∀l,β L=some l->∃f tmps a b,(Instr.yield l.b ⟨args'⟩).run P w= .ok (.round l.b f tmps a b) w/\RoundIn Fence.wide 0 P l.b f tmps a b w (aa0 w0 E.G β A bt)
def tK(P:Program)(E:az)(n:Nat)(bO:HF->Fr->AW->bp Fr):Prop:=
 ∀ro w0 ops fr A bt β a w id,bO ops fr A=some bt->bU β n (fr.get J) a.tmps->Inv w0 E.G β A w->
  (Code.region id ⟨ops⟩ true).wpIn (kg ro) 0 P (fun e a' w'=>e= .normal/\oZ w0 E.G n β A a.defers bt a' w') a w
theorem oZ.mono{w0:World}{G:GP}{n:Nat}{β aK:ai}{A A1:AW}{ds:List Deferred}{bt Gl:List (Fr×AW)}{a':Act}{w':World}(h:oZ w0 G n aK A1 ds Gl a' w')(hg:β.grow aK A.next)(hn:A.next<=A1.next)(Rt:∀c∈Gl,c∈bt):oZ w0 G n β A ds bt a' w':=by
 obtain⟨p,hp,β',h1,h2,h3,h4,h5⟩:=h;exact⟨p,Rt p hp,β',h1,h2,ai.iz hg h3 hn,xH hn h4,h5⟩
theorem Ft{ops:HF}{fr:Gt}{o:Oper}{b:Bool}{β:ai}{n:Nat}{a:Act}(h:pB ops fr o=some b)(hf:bU β n fr a.tmps):Region.wanted o (yielded ⟨ops⟩ a.tmps)=b:=by
 unfold pB at h;unfold Region.wanted;split at h
 ·grind
 ·rename_i j want hg;rw[hg];simp only;have hy:∀t,((ops[j]?).bind (·.dst))=some t->yielded ⟨ops⟩ a.tmps j=match a.tmps[t]? with|some (.bool b)=>some b|_=>none:=fun t ht=>by
   grind [yielded,bind]
  have hn:((ops[j]?).bind (·.dst))=none->yielded ⟨ops⟩ a.tmps j=none:=fun ht=>by
   grind [yielded,bind]
  rw[gg] at h;split at h
  ·rename_i g hgj;split at h
   ·rename_i t ht;have e:=hy t Ns;rw[e];have hv:=hf.2 t;cases hc:a.tmps[t]? with
    |none=>
     have hd:a.tmps.getD t undef=undef:=by simp[hc]
     rw[hd] at hv;split at h
     ·rename_i hb;rw[hb] at hv;cases hv
     ·cases h
     grind
    |some x=>
     have hd:a.tmps.getD t undef=x:=by simp[hc]
     rw[hd] at hv;split at h
     ·rename_i b0 hb;rw[hb] at hv;cases hv;cases h;cases b0<;>cases want<;>rfl
     ·cases h
     ·rename_i y8 hnc;cases h;cases hx:x with
      |bool b0=>
       rw[hx] at hv;generalize fr t=y at*;cases hv with
       |jT=>exact absurd rfl (hnc _)
       |sym=>grind
       |bool=>grind
      |_=>rfl
   grind
  grind
theorem NR{E:az}{sq:Cf}{A:AW}{g:Gt}{o:Oper}{r:R}(h:iL E sq A g o.op=r)(hr:r≠ .fail)(ro:Ji)(ρ:Operand->xM):Oper.semAt ro ρ o=execOp ρ o:=
 Oper.semAt_eq ro ρ o (fun c hc=>hr (by
  rw[<-h,hc];unfold iL;split
  ·rfl
  ·unfold tT;split<;>rfl))
theorem Nm{E:az}{sq:Cf}{A:AW}{g:Gt}{o:Oper}{r:R}(h:aQ E sq A g o.op=r)(hr:r≠ .fail)(ro:Ji)(ρ:Operand->xM):Oper.semAt ro ρ o=execOp ρ o:=
 Oper.semAt_eq ro ρ o (fun c hc=>hr (by rw[<-h,hc];rfl))
theorem aw4{E:az}{sq:Cf}{A:AW}{g:Gt}{o:Oper}{nd:Node}{v:xM}(h:n9 E sq A g o.op nd=some v)(ro:Ji)(ρ:Operand->xM):Oper.semAt ro ρ o=execOp ρ o:=
 Oper.semAt_eq ro ρ o (fun c hc=>by rw[hc] at h;cases h)
section
variable{P:Program}{E:az}(ok:E.Ok P){sq:Cf}(aU:E.Seq P sq){w0:World}
theorem Jf{γ:Type}{n:Nat}{fr:Fr}{dst:Option Tmp}{v v':xM}{k:Fr->Option (List γ)}{bt:List γ}{β:ai}{a:Act}(h:qu n fr dst v k=some bt)(hf:bU β n (fr.get J) a.tmps)(hv:aj β v v'):
 ∃cK,k cK=some bt/\bU β n (cK.get J) (a.put dst v').tmps/\(a.put dst v').defers=a.defers:=by
 cases dst with
 |none=>exact⟨fr,h,hf,rfl⟩
 |some d=>
  have h':Bool.rec (motive:=fun _=>Option (List γ)) none (yj v (fun v=>fr.lG d v k)) (Nat.ble (Nat.succ d) n)=some bt:=h;cases hd:Nat.ble (Nat.succ d) n with
  |false=>simp_all
  |true=>
   rw[hd] at h';have h2:yj v (fun v=>fr.lG d v k)=some bt:=h';rw[Fc,T.I8] at h2;exact⟨_,h2,hf.put (xh hd) hv,rfl⟩
section
variable{w:World}{β:ai}{A:AW}(inv:Inv w0 E.G β A w){n:Nat}{fr:Gt}{a:Act}(hf:bU β n fr a.tmps){o:Oper}{ro:Ji}{K:Act->World->Prop}{Q:Exit->Act->World->Prop}
include ok aU inv hf in
theorem O1{v:xM}{A':AW}(h:iL E sq A fr o.op= .val v A')(hK:∀β' v' w',aj β' v v'->Inv w0 E.G β' A' w'->β.grow β' A.next->A.next<=A'.next->K (a.put o.dst v') w'):o.wpIn (kg ro) 0 P a w K Q:=by
 obtain⟨β',v',w',aW,hv,cM,hg,hn⟩:=aX5 ok aU inv hf h;have key:=hK β' v' w' hv cM hg hn;unfold Oper.wpIn;refine⟨fun _ _=>trivial,?_⟩;rw[NR h NS];rcases aW with hr|⟨hr,rfl⟩
 ·rw[hr];exact key
 ·rw[hr];exact key
include ok aU inv hf in
theorem aK6{v:xM}{A':AW}(h:aQ E sq A fr o.op= .val v A')(hK:∀β' v' w',aj β' v v'->Inv w0 E.G β' A' w'->β.grow β' A.next->A.next<=A'.next->K (a.put o.dst v') w'):o.wpIn (kg ro) 0 P a w K Q:=by
 obtain⟨β',v',w',aW,hv,cM,hg,hn⟩:=Qf ok aU inv hf h;unfold Oper.wpIn;refine⟨fun _ _=>trivial,?_⟩;rw[Nm h NS];rcases aW with h1|⟨h1,rfl⟩
 ·rw[h1];exact hK β' v' w' hv cM hg hn
 ·rw[h1];exact hK β' undef w' hv cM hg hn
include inv hf in
theorem bg8{q:List (xM×AW)}(h:iL E sq A fr o.op= .nd q)(hK:∀p∈q,∀β' v' w',aj β' p.1 v'->Inv w0 E.G β' p.2 w'->β.grow β' A.next->A.next<=p.2.next->K (a.put o.dst v') w'):o.wpIn (kg ro) 0 P a w K Q:=by
 obtain⟨p,hp,β',v',w',aW,hv,cM,hg,hn⟩:=aX6 (P:=P) inv hf h;have key:=hK p hp β' v' w' hv cM hg hn;unfold Oper.wpIn;refine⟨fun _ _=>trivial,?_⟩;rw[NR h NS];rcases aW with hr|⟨hr,rfl⟩
 ·rw[hr];exact key
 ·rw[hr];exact key
include ok inv hf in
theorem WE{call:eL->C3->AW->bp xM}(hc:mc P E call){t:eL}{args:C3}{bt:List (xM×AW)}(h:iL E sq A fr o.op= .call t args)(nH:call t args A=some bt)
 (hK:∀p∈bt,∀β' v' w',aj β' p.1 v'->Inv w0 E.G β' p.2 w'->β.grow β' A.next->A.next<=p.2.next->K (a.put o.dst v') w'):o.wpIn (kg ro) 0 P a w K Q:=by
 obtain⟨args',pI,aW⟩:=aE5 ok inv hf h;have wD:=hc w0 t args A bt β w args' nH inv pI;unfold Oper.wpIn;refine⟨fun _ _=>trivial,?_⟩;rw[NR h NS];cases t with
 |fn f=>
  have Qr:(execOp a.eval o).run P w= .ok (.enter f ⟨args'⟩) w:=aW;rw[Qr];refine⟨fun h=>by simp[Fence.wide] at h,bf3 (Calls.mono wD ?_)⟩;rintro e w' ⟨p,hp,β',v',rfl,hv,cM,hg,hn⟩
  grind
 |rd L=>
  obtain⟨l,hl,Qr⟩:=aW;obtain⟨f,tmps,x,y,hy,aZ6⟩:=wD l hl;rw[Qr,hy];refine⟨fun h=>by simp[Fence.wide] at h,aW5 (RoundIn.mono aZ6 ?_)⟩;rintro e w' ⟨p,hp,β',v',rfl,hv,cM,hg,hn⟩
  grind
end
include ok aU in
theorem z7{call:eL->C3->AW->bp xM}(hc:mc P E call){n:Nat}{ops:HF}{ro:Ji}{ds:List Deferred}:∀(l:HF) (fr:Fr) (A:AW) (bt:List (Fr×AW)) (β:ai) (a:Act) (w:World) (Q:Exit->Act->World->Prop),
 sh E sq call n ops l fr A=some bt->bU β n (fr.get J) a.tmps->Inv w0 E.G β A w->a.defers=ds->(∀a' w',oZ w0 E.G n β A ds bt a' w'->Q .normal a' w')->wpListIn (kg ro) 0 P ⟨ops⟩ Q l a w
 |[],fr,A,bt,β,a,w,Q,h,hf,inv,hd,hQ=>by
  cases h;exact hQ a w ⟨_,xn,β,hf,inv,ai.dg _ _,xk _,hd⟩
 |o::l,fr,A,bt,β,a,w,Q,h,hf,inv,hd,hQ=>by
  have h':(match pB ops (fr.get J) o with
   |none=>none
   |some false=>qu n fr o.dst undef (fun fr=>sh E sq call n ops l fr A)
   |some true=>match iL E sq A (fr.get J) o.op with
    | .fail=>none
    | .val v A'=>qu n fr o.dst v (fun fr=>vm A' (fun A'=>sh E sq call n ops l fr A'))
    | .call f args=>kY (call f args A) (fun p=>qu n fr o.dst p.1 (fun fr=>sh E sq call n ops l fr p.2))
    | .nd q=>kY (some q) (fun p=>qu n fr o.dst p.1 (fun fr=>sh E sq call n ops l fr p.2)))=some bt:=by
   rw[<-h];exact(aU1 _ _ call n o (sh E sq call n ops l) fr A).symm
  clear h;unfold wpListIn;split at h'
  ·cases h'
  ·rename_i hw;rw[Ft hw hf,if_neg NS];obtain⟨cK,h1,h2,h3⟩:=Jf h' hf (aj.undef (β:=β));exact⟨fun _ _=>trivial,z7 hc l cK A bt β _ w Q h1 h2 inv (h3.trans hd) hQ⟩
  ·rename_i hw;rw[Ft hw hf,if_pos rfl];split at h'
   ·cases h'
   ·rename_i v A' dY;refine O1 ok aU inv hf dY (fun β' v' w' hv cM hg hn=> ?_);have aN:=inv.gy hg;obtain⟨cK,h1,h2,h3⟩:=Jf h' (hf.mono aN) hv;rw[Fe] at h1;exact z7 hc l cK A' bt β' (a.put o.dst v') w' Q h1 h2 cM (h3.trans hd) (fun a2 w2 hp=>hQ a2 w2 (hp.mono hg hn (fun _ hc=>hc)))
   ·rename_i f args dY;obtain⟨eY,fM,aL⟩:=uT h';refine WE ok inv hf hc dY fM (fun p hp β' v' w' hv cM hg hn=> ?_);obtain⟨r,ey,bE⟩:=aL p hp;have aN:=inv.gy hg;obtain⟨cK,h1,h2,h3⟩:=Jf ey (hf.mono aN) hv;exact z7 hc l cK p.2 r β' (a.put o.dst v') w' Q h1 h2 cM (h3.trans hd) (fun a2 w2 aO=>hQ a2 w2 (aO.mono hg hn bE))
   ·rename_i q dY;obtain⟨eY,fM,aL⟩:=uT h';cases fM;refine bg8 inv hf dY (fun p hp β' v' w' hv cM hg hn=> ?_);obtain⟨r,ey,bE⟩:=aL p hp;have aN:=inv.gy hg;obtain⟨cK,h1,h2,h3⟩:=Jf ey (hf.mono aN) hv;exact z7 hc l cK p.2 r β' (a.put o.dst v') w' Q h1 h2 cM (h3.trans hd) (fun a2 w2 aO=>hQ a2 w2 (aO.mono hg hn bE))
theorem UO{b:Frame}{a:Act}{k:List Item}{cs:List Frame}{w:World}{c:Code}:step P (lone (b.atR a (.code (.scope c)::k)) cs w)= .next (lone (b.atR a (.code c:: .inScope c::k)) cs w):=
 step_lone_go (by simp[stepG,stepG.exec,Frame.atR])
theorem Uw{b:Frame}{a:Act}{k:List Item}{cs:List Frame}{w:World}{c:Code}:step P (lone (b.atR a (.inScope c::k)) cs w)= .next (lone (b.atR a k) cs w):=
 step_lone_go (by simp[stepG,stepG.exec,Frame.atR])
def Dt(β:ai):List Nat->List Deferred->Prop
 |[],[]=>True
 |D::ms,d::ds=>(∃l,β D=some l/\d.target= .collected l.b)/\Dt β ms ds
 |_,_=>False
theorem Dt.mono{β β':ai}(hb:β.le β'):∀{ms:Es} {ds:List Deferred},Dt β ms ds->Dt β' ms ds
 |[],[],_=>trivial
 |_::_,_::_,⟨⟨l,h1,h2⟩,h3⟩=>⟨⟨l,hb.f _ _ h1,h2⟩,h3.mono hb⟩
 |[],_::_,h=>h.elim
 |_::_,[],h=>h.elim
theorem Iq(w:World)(g:Nat)(o:Obj):w.grownBy (w.putObj g o) (some g):=
 ⟨rfl,rfl,rfl,NS,fun k _ hk=>World.putObj_heap_other (fun e=>hk (by rw[e]))⟩
theorem WN{β:ai}:∀(ms:Es) (ds:List Deferred) (A A':AW) (w:World) (fr:Frame) (cs:List Frame),P0 E ms A=some A'->Dt β ms ds->Inv w0 E.G β A w->fr.mode≠ .run->fr.defers=ds->
 ∃w',Inv w0 E.G β A' w'/\A'.next=A.next/\Steps P (lone fr cs w) (lone {fr with defers:=[]} cs w')
 |[],[],A,A',w,fr,cs,h,_,inv,hm,hd=>by
  cases h;refine⟨w,inv,rfl,?_⟩;rw[<-hd];exact .refl P _
 |D::ms,d::ds,A,A',w,fr,cs,h,⟨⟨l,hl,ht⟩,y9⟩,inv,hm,hd=>by
  have h':(match A.get D with
   |some ⟨.wO,_,_,_,_⟩=>bs (Nat.ble E.G.n D) (P0 E ms (A.put D none)) none
   |_=>none)=some A':=h
  clear h;split at h'
  ·rename_i es ex r ty hg;replace h':=aC h';rcases h' with⟨hG,h'⟩|⟨_,h'⟩
   ·have Mi:w.heap[l.b]? =some (.deferred (some [])):=inv.cont D _ l hg hl;have AZ:=inv.forget (w':=w.putObj l.b (.deferred none)) D l _ hg hl (xh hG) (Iq w l.b _) NS;obtain⟨w',h1,h2,h3⟩:=WN ms ds (A.put D none) A' _ {fr with defers:=[]++ds} cs h' y9 AZ hm rfl;exact⟨w',h1,h2,.head (step_collected hm hd ht (run_takeDeferred Mi)) h3⟩
   ·cases h'
  ·cases h'
 |[],_::_,_,_,_,_,_,_,h,_,_,_=>h.elim
 |_::_,[],_,_,_,_,_,_,h,_,_,_=>h.elim
def yB(β:ai)(ro r:Ji):Prop:=match ro,r with|none,none=>True|some L,some l=>∃lb,β L=some lb/\lb.b=l|_,_=>False
theorem yB.mono{β β':ai}(hb:β.le β'){ro r:Ji}(h:yB β ro r):yB β' ro r:=by
 unfold yB at*;cases ro<;>cases r<;>first|exact h|exact h.imp fun lb ⟨e1,e2⟩=>⟨hb.f _ _ e1,e2⟩
def Lu(w:World)(r:Ji):xM:=
 match r with
 |some l=>(match w.heap[l]? with|some (.loop rec)=> .bool rec.pending.isNone|_=> .bool true)
 |none=> .bool true
def yS(ro:Ji)(b:Frame)(cs:List Frame)(a:Act)(td:List Item)(w:World):Machine:=
 match ro,cs with
 |some _,c::bB=>lone (c.finish (Lu w b.roundOf)) bB w
 |_,_=>lone {b.atR a td with mode:= .returning} cs w
include ok in
theorem aJ1{A:AW}{fv fv' y y':xM}{g:FuncId}{args:C3}{β:ai}{w:World}(h:yA E A fv [y]= .call (.fn g) args)(hv:aj β fv fv')(hy:aj β y y'):
 ∃d args',(Deferred.ofValue fv' #[y']).run P w= .ok d w/\(invoke d.target d.args).run P w= .ok (.enter g ⟨args'⟩) w/\aZ β args args':=by
 unfold yA at h;split at h
 ·rename_i fid p q;split at h
  ·rename_i nm SY ta ps rt nf nt rs bd nr ou fi el ln me tn qK;cases h;obtain⟨DP,Av⟩:=ok.fn g _ qK;have Pw: ¬nm= "runtime.NumGoroutine":=by simpa using Av
   cases hv with
   |func _ _ p' _ q' hp hq h1 h2=>
    refine⟨{target:= .fn (.func g) ⟨q'⟩,args:=⟨p'⟩++ #[y']},p'++[y']++q',by simp[Deferred.ofValue],?_,?_⟩
    ·simp[invoke,callFunc,program,Sem.run,DP,Pw]
    ·rw[mQ,mQ];exact(aZ.append ⟨hp,h1⟩ ((aZ.nil β).cons hy)).append ⟨hq,h2⟩
  ·unfold eU at h;grind
 ·cases h
 ·cases h
include ok aU in
theorem CK{call:eL->C3->AW->bp xM}(hc:mc P E call){n:Nat}{bO:HF->Fr->AW->bp Fr}(j7:tK P E n bO){ro:Ji}{b:Frame}{cs:List Frame}(df:ro.isSome=true->b.kind= .normal/\∃c bB,cs=c::bB):
 ∀(aT:Nat) (ms:Es) (eI:List Item) (fr:Fr) (A:AW) (bt:List (Fr×AW)) (β:ai) (a:Act) (w:World),vG E sq call n bO ro aT ms eI fr A=some bt->bU β n (fr.get J) a.tmps->Inv w0 E.G β A w->Dt β ms a.defers->yB β ro b.roundOf->
  ∃a' w' td,oZ w0 E.G n β A [] bt a' w'/\Steps P (lone (b.atR a eI) cs w) (yS ro b cs a' td w')
 |0,ms,eI,fr,A,bt,β,a,w,h,hf,inv,y9,kN=>by cases h
 |aT+1,ms,eI,fr,A,bt,β,a,w,h,hf,inv,y9,kN=>by
  have h':P2 E sq call n bO ro (vG E sq call n bO ro aT) ms eI fr A=some bt:=h;clear h;rw[aC6] at h';unfold Y1 at h';have go:∀pC,vG E sq call n bO ro aT ms pC fr A=some bt->step P (lone (b.atR a eI) cs w)= .next (lone (b.atR a pC) cs w)->
   ∃a' w' td,oZ w0 E.G n β A [] bt a' w'/\Steps P (lone (b.atR a eI) cs w) (yS ro b cs a' td w'):=fun pC h1 h2=>by
   obtain⟨a',w',td,hp,hs⟩:=CK hc j7 df aT ms pC fr A bt β a w h1 hf inv y9 kN;exact⟨a',w',td,hp,.head h2 hs⟩
  have region:∀id ops dr k eY,eI= .code (.region id ⟨ops⟩ dr)::k->(Code.region id ⟨ops⟩ dr).wpIn (kg b.roundOf) 0 P (fun e a' w'=>e= .normal/\oZ w0 E.G n β A a.defers eY a' w') a w->(∀p∈eY,∃r,vG E sq call n bO ro aT ms k p.1 p.2=some r/\∀c∈r,c∈bt)->
   ∃a' w' td,oZ w0 E.G n β A [] bt a' w'/\Steps P (lone (b.atR a eI) cs w) (yS ro b cs a' td w'):=fun id ops dr k eY ht HD fS=>by
   subst ht;obtain⟨e,a1,w1,⟨rfl,p,hp,aK,g1,g2,g3,g4,g5⟩,Ha⟩:=HD b k cs rfl trivial (P' _ _);obtain⟨r,ey,bE⟩:=fS p hp;have aN:=inv.gy g3;obtain⟨a',w',td,Gq,hs⟩:=CK hc j7 df aT ms k p.1 p.2 r aK a1 w1 ey g1 g2 (g5▸y9.mono aN) (kN.mono aN);exact⟨a',w',td,Gq.mono g3 g4 bE,Steps.trans (StepsIn.steps Ha) hs⟩
  have fin:∀td,ro=none->DX E none ms fr A=some bt->step P (lone (b.atR a eI) cs w)= .next (lone {b.atR a td with mode:= .returning} cs w)->
   ∃a' w' td,oZ w0 E.G n β A [] bt a' w'/\Steps P (lone (b.atR a eI) cs w) (yS ro b cs a' td w'):=fun td hrn he bk=>by
   subst hrn;unfold DX at he;simp only at he;split at he
   ·rename_i A' mF;cases he;obtain⟨w',h1,h2,h3⟩:=WN (P:=P) (w0:=w0) ms a.defers A A' w {b.atR a td with mode:= .returning} cs mF y9 inv NS rfl;refine⟨⟨a.tmps,[]⟩,w',td,⟨_,xn,β,hf,h1,ai.dg _ _,Ns,rfl⟩,.head bk ?_⟩;exact h3
   ·cases he
  have Kq:∀(j:Option Code) (L:Nat),ro=some L->JP E (Zh j) L fr A=some bt->
   (∀c bB l v w',cs=c::bB->b.roundOf=some l->b.kind= .normal->(Instr.endRound l j).run P w= .ok v w'->step P (lone (b.atR a eI) cs w)= .next (lone (c.finish v) bB w'))->
   ∃a' w' td,oZ w0 E.G n β A [] bt a' w'/\Steps P (lone (b.atR a eI) cs w) (yS ro b cs a' td w'):=fun j L hr h' bk=>by
   rw[hr] at kN;obtain⟨hk,c,bB,H3⟩:=df (by rw[hr];rfl);unfold JP at h';cases s7:b.roundOf with
   |none=>rw[s7] at kN;exact kN.elim
   |some l=>
    rw[s7] at kN;obtain⟨lb,pY,RB⟩:=kN;split at h'
    ·rename_i t m ps x y es ex r ty hg;replace h':=aC h';rcases h' with⟨hG,h'⟩|⟨_,h'⟩
     ·cases h';obtain⟨rec,k1,k2,k3,k4,k5,k6,k7,k8⟩:=inv.cont L _ lb hg pY;subst RB;have uc:=run_endRound (P:=P) j k1;have AZ:=inv.write (w':=w.putObj lb.b (.loop {rec with state:=if j.isNone then .ready else .done,pending:=j})) L lb _ ⟨.loop (Zh j) t m ps x y,es,ex,r,ty⟩ hg pY (xh hG) (Iq w lb.b _) NS
       ⟨{rec with state:=if j.isNone then .ready else .done,pending:=j},World.putObj_heap_same (inv.loc L lb pY).1,by cases j<;>rfl,by cases j<;>rfl,k4,k5,k6,k7,k8⟩
      refine⟨⟨a.tmps,[]⟩,_,[],⟨_,xn,β,hf,AZ,ai.dg _ _,xk _,rfl⟩,.one ?_⟩;rw[bk c bB _ _ _ H3 s7 hk uc,hr,H3];have hv:Lu (w.putObj lb.b (.loop {rec with state:=if j.isNone then .ready else .done,pending:=j})) b.roundOf= .bool j.isNone:=by
       rw[s7];unfold Lu;simp only;rw[World.putObj_heap_same (inv.loc L lb pY).1]
      grind [yS]
     ·cases h'
    ·cases h'
  split at h'
  ·cases hr:ro with
   |none=>
    rw[hr] at h';have hb:b.roundOf=none:=by rw[hr] at kN;unfold yB at kN;cases s7:b.roundOf with|none=>rfl|some l=>grind
    grind [stepR_end]
   |some L=>
    rw[hr] at h';rw[<-hr];refine Kq none L hr h' (fun c bB l v w' e1 e2 e3 e4=> ?_)
    grind [stepR_round_end]
  ·rename_i k;split at h'
   ·have hb:b.roundOf=none:=by unfold yB at kN;cases s7:b.roundOf with|none=>rfl|some l=>grind
    exact fin _ rfl h' (stepR_ret hb)
   ·rename_i L;refine Kq (some .ret) L rfl h' (fun c bB l v w' e1 e2 e3 e4=> ?_)
    grind [stepR_round_ret]
  ·exact go _ h' stepR_skip
  ·exact go _ h' stepR_label
  ·exact go _ h' stepR_seq
  ·rename_i c x y k;have hv:=kB (a:=a) inv hf c;split at h'
   ·rename_i t ht;rw[ht] at hv;generalize wB:a.eval c=cv at hv;cases hv;refine go _ h' ?_;have:=stepR_cond (P:=P) (b:=b) (k:=k) (cs:=cs) (w:=w) (x:=x) (y:=y) wB;rw[this];cases t<;>rfl
   ·cases h'
  ·exact go _ h' stepR_block
  ·exact go _ h' stepR_loop
  ·exact go _ h' UO
  ·split at h'
   ·grind [hk,stepR_exit]
   ·rename_i id k x hx;unfold yt at h';split at h'
    ·cases h'
    ·rename_i L;refine Kq (some (.exit id)) L rfl h' (fun c bB l v w' e1 e2 e3 e4=> ?_)
     grind [stepR_round_exit]
  ·split at h'
   ·grind [hk,stepR_goto]
   ·rename_i id k x hx;unfold yt at h';split at h'
    ·cases h'
    ·rename_i L;refine Kq (some (.goto id)) L rfl h' (fun c bB l v w' e1 e2 e3 e4=> ?_)
     grind [stepR_round_goto]
  ·rename_i id ops k;obtain⟨eY,h1,h2⟩:=uT h';refine region id ops false k eY rfl ?_ h2;exact wpIn_region_list (z7 ok aU hc ops fr A eY β a w _ h1 hf inv rfl (fun a' w' hp=>⟨rfl,hp⟩))
  ·rename_i id ops k;obtain⟨eY,h1,h2⟩:=uT h';exact region id ops true k eY rfl (j7 _ w0 ops fr A eY β a w id h1 hf inv) h2
  ·
   rename_i f ps x y k;split at h';rotate_left
   ·cases h'
   have hb:b.roundOf=none:=by unfold yB at kN;cases s7:b.roundOf with|none=>rfl|some l=>grind
   unfold Pd at h';split at h';rotate_left
   ·cases h'
   rename_i g args wB;replace h':=aC h';rcases h' with⟨hG,h'⟩|⟨_,h'⟩;rotate_left
   ·cases h'
   have jL:=xh hG;obtain⟨eY,fM,aL⟩:=uT h';have n1:=inv.new ⟨.wO,0,true,false,0⟩ (.deferred (some [])) ⟨w.heap.size,0,0,0⟩ rfl rfl;have sx:=inv.gy n1.2;have n2:=n1.1.new ⟨.loop .ready fr n ps x y,0,true,false,0⟩ (.loop {state:= .ready,pending:=none,fn:=b.fn,tmps:=a.tmps,params:=⟨ps⟩,assign:=x,body:=y,defers:=w.heap.size}) ⟨(w.alloc (.deferred (some []))).heap.size,0,0,0⟩ rfl
    ⟨_,rfl,rfl,rfl,rfl,rfl,rfl,hf.1,fun t=>((hf.2 t).mono sx).mono (n1.1.gy (ai.uW _ _ _))⟩
   have cp5:=n1.1.gy n2.2;have BP:(A.add ⟨.wO,0,true,false,0⟩).next=A.next+1:=rfl;rw[BP] at n2;generalize ac5:(ai.put (ai.put β A.next ⟨w.heap.size,0,0,0⟩) (A.next+1) ⟨(w.alloc (.deferred (some []))).heap.size,0,0,0⟩)=cY at*;have hL:cY (A.next+1)=some ⟨(w.alloc (.deferred (some []))).heap.size,0,0,0⟩:=by rw[<-ac5];exact j9 _ _ _
   have hD:cY A.next=some ⟨w.heap.size,0,0,0⟩:=by rw[<-ac5];rw[ai.tL,if_neg MK];exact j9 _ _ _
   have ae9:β.le cY:=ai.le_trans sx Ns;have Lg:β.grow cY A.next:=ai.iz n1.2 n2.2 MK;have ad4:(w.alloc (.deferred (some []))).heap.size=w.heap.size+1:=NS
   obtain⟨d,args',np,fJ,pI⟩:=aJ1 (P:=P) (β:=cY) (w:=(w.alloc (.deferred (some []))).alloc (.loop {state:= .ready,pending:=none,fn:=b.fn,tmps:=a.tmps,params:=⟨ps⟩,assign:=x,body:=y,defers:=w.heap.size})) ok wB ((kB (a:=a) inv hf f).mono ae9) (aj.yield (β:=cY) (A.next+1) _ hL);simp only [ad4] at np;have nH:=hc w0 (.fn g) args _ eY cY _ args' fM n2.1 pI;have he:(Instr.enterLoop b.fn a.tmps ⟨ps⟩ x y b.roundOf).run P w= .ok (w.heap.size+1,[{target:= .collected w.heap.size,args:= #[]}]) ((w.alloc (.deferred (some []))).alloc (.loop {state:= .ready,pending:=none,fn:=b.fn,tmps:=a.tmps,params:=⟨ps⟩,assign:=x,body:=y,defers:=w.heap.size})):=by
    rw[hb];exact run_enterLoop_outer _ _ _ _ _
   have bk:=stepR_rangeFunc (P:=P) (b:=b) (a:=a) (k:=k) (cs:=cs) (w:=w) (g:=f) (ps:=⟨ps⟩) (assign:=x) (body:=y) (d:=d) he (by simp[resolve];exact np) fJ;obtain⟨e,w3,frX,⟨p,hp,io,v3,rfl,Td,AY,G7,ww⟩,ba2,qK,aZ8⟩:=nH (b.atR {a with defers:=[{target:= .collected w.heap.size,args:= #[]}]++a.defers} (.inRangeFunc (w.heap.size+1)::k)::cs);obtain⟨r,ey,bE⟩:=aL p hp;have TQ:((A.add ⟨.wO,0,true,false,0⟩).add ⟨.loop .ready fr n ps x y,0,true,false,0⟩).next=A.next+2:=rfl;rw[TQ] at G7 ww;have Mu:io (A.next+1)=some ⟨(w.alloc (.deferred (some []))).heap.size,0,0,0⟩:=(G7.f _ MK).trans hL;have hD3:io A.next=some ⟨w.heap.size,0,0,0⟩:=(G7.f _ MK).trans hD;rw[ad4] at Mu;have by9:cY.le io:=n2.1.gy G7;have aN:β.le io:=ai.le_trans ae9 by9;have lZ:β.grow io A.next:=ai.iz Lg G7 MK;have YQ:∀(j:Option Code) (rec:Loop) blk,p.2.get (A.next+1)=some blk->blk.still=false->w3.heap[w.heap.size+1]? =some (.loop rec)->rec.state≠ .busy->rec.pending=j->
    vG E sq call n bO none aT (A.next::ms) ((j.map Item.code).toList++k) fr (p.2.put (A.next+1) none)=some r->
    ∃a' w' td,oZ w0 E.G n β A [] bt a' w'/\Steps P (lone (b.atR a (.code (.rangeFunc f ⟨ps⟩ x y)::k)) cs w) (yS none b cs a' td w'):=fun j rec blk rA y5 k1 k2 k3 ey=>by
    have bv6:=AY.forget (w':=w3.putObj (w.heap.size+1) (.loop {rec with state:= .exhausted})) (A.next+1) _ _ rA Mu MK (Iq w3 _ _) NS y5;have bn7:=run_endLoop (P:=P) k1 k2;have uc:(Instr.endLoop (w.heap.size+1)).run P w3= .ok j (w3.putObj (w.heap.size+1) (.loop {rec with state:= .exhausted})):=by
     rw[bn7,k3]
    obtain⟨a',w',td,Gq,hs⟩:=CK hc j7 df aT (A.next::ms) ((j.map Item.code).toList++k) fr (p.2.put (A.next+1) none) r io {a with defers:=[{target:= .collected w.heap.size,args:= #[]}]++a.defers} _ ey (hf.mono aN) bv6 ⟨⟨_,hD3,rfl⟩,y9.mono aN⟩ (kN.mono aN);refine⟨a',w',td,Gq.mono lZ (xH MK ww) bE,.head bk (Steps.trans ba2 (.head ?_ (.head (stepR_endRangeFunc uc) hs)))⟩;rw[<-finish_atR_inRangeFunc (w.heap.size+1) v3];exact step_leave_returned aZ8
   split at ey
   ·rename_i rA;obtain⟨rec,k1,k2,k3,k4⟩:=AY.cont (A.next+1) _ _ rA Mu;exact YQ none rec _ rA rfl k1 (by rw[k2];simp) k3 ey
   ·rename_i j3 _ _ _ _ _ _ _ _ _ rA;obtain⟨rec,k1,k2,k3,k4⟩:=AY.cont (A.next+1) _ _ rA Mu;exact YQ (some j3) rec _ rA rfl k1 (by rw[k2];simp) k3 ey
   ·cases ey
  ·
   rename_i k;split at h'
   ·cases h'
   rename_i L;cases s7:b.roundOf with
   |none=>rw[s7] at kN;exact kN.elim
   |some l=>
    have bw7:=kN;rw[s7] at kN;obtain⟨lb,pY,RB⟩:=kN;split at h'
    ·rename_i t m ps x y es ex r ty hg;replace h':=aC h';rcases h' with⟨hG,h'⟩|⟨_,h'⟩
     ·obtain⟨rec,k1,k2,k3,k4,k5,k6,k7,k8⟩:=inv.cont L _ lb hg pY;subst RB;have bB3:=run_beginRound (P:=P) k1 k2;have AZ:=inv.write (w':=w.putObj lb.b (.loop {rec with state:= .busy})) L lb _ ⟨.loop .busy t m ps x y,es,ex,r,ty⟩ hg pY (xh hG) (Iq w lb.b _) NS
       ⟨{rec with state:= .busy},World.putObj_heap_same (inv.loc L lb pY).1,rfl,k3,k4,k5,k6,k7,k8⟩
      obtain⟨a',w',td,hp,hs⟩:=CK hc j7 df aT ms k fr _ bt β a _ h' hf AZ y9 bw7;exact⟨a',w',td,hp,.head (stepR_beginRound s7 bB3) hs⟩
     ·cases h'
    ·cases h'
  ·exact go _ h' stepR_inBlock
  ·exact go _ h' Uw
  ·exact go _ h' stepR_inLoop
  ·cases h'
theorem XX{ρ:Type}{n:Nat}{β:ai}:∀(l l':C3) (i:Nat) (fr:Fr) (tmps:KB) (k:Fr->ρ),aZ β l l'->i+l.length<=n->bU β n (fr.get J) tmps->
 ∃cK yn,KP l i fr k=k cK/\bU β n (cK.get J) yn/\(∀j,yn[j]? =if i<=j/\j<i+l.length then l'[j - i]? else tmps[j]?)
 |[],l',i,fr,tmps,k,hl,hn,hf=>⟨fr,tmps,rfl,hf,fun j=>Ns⟩
 |v::l,l',i,fr,tmps,k,hl,hn,hf=>by
  obtain⟨v',r,rfl,hv,hr⟩:=hl.pu;rw[xi] at hn;obtain⟨cK,yn,h1,h2,h3⟩:=XX l r (i+1) (fr.set i v) (tmps.setIfInBounds i v') k hr MK (hf.put MK hv);refine⟨cK,yn,?_,h2,fun j=> ?_⟩
  ·show fr.lG i v (fun fr=>KP l (i+1) fr k)=_
   grind [T.I8]
  ·rw[h3 j,xi];by_cases c1:i+1<=j/\j<i+1+l.length
   ·grind
   ·rw[if_neg c1];by_cases c2:i=j
    ·subst c2;rw[if_pos MK,Nat.sub_self,List.getElem?_cons_zero];have:i<tmps.size:=by rw[hf.1];omega
     simp[this]
    grind
end
section
variable{P:Program}{E:az}(ok:E.Ok P){sq:Cf}(aU:E.Seq P sq){w0 w:World}
def JF(tmps:KB)(r:ResultVar):Sem xM:=match r with
 | .tmp t=>pure (tmps.getD t undef)
 | .cell a t=>do loadVar t (<-asAddr (tmps.getD a undef))
include ok in
theorem Ou{β:ai}{A:AW}(inv:Inv w0 E.G β A w){n:Nat}{fr:Fr}{tmps:KB}(hf:bU β n (fr.get J) tmps):∀(l:List ResultVar) (vs:C3),Rc E fr A l=some vs->∃lT,(l.mapM (JF tmps)).run P w= .ok lT w/\aZ β vs lT
 |[],vs,h=>by cases h;exact⟨[],NS,aZ.nil β⟩
 |r::l,vs,h=>by
  have h':(match(match r with| .tmp t=>some (fr.get J t)| .cell a t=>yr E A t (fr.get J a)),Rc E fr A l with
   |some v,some vs=>some (v::vs)
   |_,_=>none)=some vs:=h
  clear h;split at h'
  ·rename_i v vs2 hv bH;cases h';obtain⟨lT,h1,h2⟩:=Ou inv hf l vs2 bH;have key:∃v',(JF tmps r).run P w= .ok v' w/\aj β v v':=by
    cases r with
    |tmp t=>cases hv;exact⟨_,by simp[JF],hf.2 t⟩
    |cell a t=>
     have dJ:yr E A t (fr.get J a)=some v:=hv;have hx:=hf.2 a;obtain⟨v',e1,e2⟩:=Xo ok inv dJ hx;unfold yr at dJ;split at dJ
     ·rename_i B o hq;rw[hq] at hx;generalize j6:tmps.getD a undef=x at*;cases hx with
      |ptr _ _ lc eK=>
       refine⟨v',?_,e2⟩;simp[Instr.loadAt,Instr.sureAddr] at e1;show(do loadVar t (<-asAddr (tmps.getD a undef)):Sem xM).run P w= .ok v' w
       grind [asAddr]
     ·cases dJ
   obtain⟨v',e1,e2⟩:=key;exact⟨v'::lT,by simp_all,h2.cons e2⟩
  ·cases h'
include ok in
theorem Yg{β:ai}{A:AW}(inv:Inv w0 E.G β A w){n:Nat}{fr:Fr}{tmps:KB}(hf:bU β n (fr.get J) tmps){fn:Func}{rs:List ResultVar}(hr:fn.results=⟨rs⟩){v:xM}(h:GO E fr A rs=some v):
 ∃v',(results fn tmps).run P w= .ok v' w/\aj β v v':=by
 have mq:results fn tmps=(do let vs<-(⟨rs⟩:Array ResultVar).mapM (JF tmps);pure (if h:vs.size=1 then vs[0] else .tuple vs)):=by
  unfold results;rw[hr];rfl
 unfold GO at h;split at h
 ·rename_i v0 hl;cases h;obtain⟨lT,h1,h2⟩:=Ou ok inv hf rs _ hl;obtain⟨v',l',rfl,hv,fG⟩:=h2.pu;have:=fG.qU
  simp_all
 ·rename_i vs bo hl;cases h;obtain⟨lT,h1,h2⟩:=Ou ok inv hf rs _ hl;refine⟨.tuple ⟨lT⟩,?_,aj.rK h2⟩;rw[mq];have hn: ¬lT.length=1:=fun e=>by
   rw[<-h2.1] at e;cases vs with
   |nil=>cases e
   |cons x t=>
    simp_all
  simp_all
 ·cases h
theorem W5{ρ:Type}{n:Nat}{β:ai}:∀(ps:Es) (l l':C3) (fr:Fr) (tmps:KB) (k:Fr->ρ),aZ β l l'->(∀t∈ps,t<n)->bU β n (fr.get J) tmps->
 ∃cK,Kd ps l fr k=k cK/\bU β n (cK.get J) ((ps.zip l').foldl (fun tmps (p:Nat×xM)=>tmps.setIfInBounds p.1 p.2) tmps)
 |[],l,l',fr,tmps,k,hl,hn,hf=>⟨fr,rfl,by simpa using hf⟩
 |t::ps,[],l',fr,tmps,k,hl,hn,hf=>by rw[hl.qU];exact⟨fr,rfl,by simpa using hf⟩
 |t::ps,v::l,l',fr,tmps,k,hl,hn,hf=>by
  obtain⟨v',r,rfl,hv,hr⟩:=hl.pu;obtain⟨cK,h1,h2⟩:=W5 ps l r (fr.set t v) (tmps.setIfInBounds t v') k hr (fun x hx=>hn x (xo _ hx)) (hf.put (hn t xn) hv);refine⟨cK,?_,by simpa using h2⟩;show fr.lG t v (fun fr=>Kd ps l fr k)=_
  grind [T.I8]
include ok aU in
theorem Wt{bO:(eL->C3->AW->bp xM)->Nat->List Oper->Fr->AW->bp Fr}(j7:∀call n,mc P E call->tK P E n (bO call n)){pg:eL->C3->AW->bp xM}(uB:mc P E pg)(aT:Nat):∀depth,mc P E (AH E sq bO pg aT depth)
 |0=>fun w0 t args A bt β w args' h=>by cases h
 |depth+1=>fun w0 t args A bt β w args' h inv pI=>by
  have ih:=Wt j7 uB aT depth;cases hq:pg t args A with
  |some o=>
   have ho:o=bt:=by
    have:(match pg t args A with|some o=>some o|none=>_)=some bt:=h;rw[hq] at this;exact xC this
   subst ho;exact uB w0 t args A o β w args' hq inv pI
  |none=>
  cases t with
  |fn f=>
   have h':(match E.fn.get none f with
    |some ⟨_,_,_,_,_,_,nt,⟨rs⟩,some c,_,_,_,_,_,_,_⟩=>
     bs (Nat.ble (bT args) nt) (KP args 0 (T.full undef (Nat.add (Nat.log2 (Nat.add nt 1)) 1)) (fun fr=>
      kY (vG E sq (AH E sq bO pg aT depth) nt (bO (AH E sq bO pg aT depth) nt) none aT [] [.code c] fr A) (fun p=>match GO E p.1 p.2 rs with|some v=>some [(v,p.2)]|none=>none))) none
    |_=>none)=some bt:=by
    rw[<-h];show _=(match pg (.fn f) args A with|some o=>some o|none=>_);rw[hq];rfl
   clear h;split at h'
   ·rename_i nm SY ta ps rt nf nt rs c nr ou fi el ln me tn qK;replace h':=aC h';rcases h' with⟨aN,h'⟩|⟨_,h'⟩
    ·have Le:args.length<=nt:=by have:=xh aN;rw[eH] at this;exact this
     obtain⟨DP,_⟩:=ok.fn f _ qK;have aE:=pI.1;have oG:bU β nt (T.get J (T.full undef (Nat.add (Nat.log2 (Nat.add nt 1)) 1))) (Array.replicate nt undef):=by
      refine⟨NS,fun t=> ?_⟩;have:(Array.replicate nt undef).getD t undef=undef:=by
       by_cases ht:t<nt
       ·simp[ht]
       ·simp[ht]
      rw[this];rcases T.B7 undef J (Nat.add (Nat.log2 (Nat.add nt 1)) 1) t with e|e
      ·rw[e];exact aj.undef
      ·rw[e];exact .jT _
     obtain⟨cK,yn,hk,Tw,Th⟩:=XX args args' 0 _ _ _ pI MK oG;rw[hk] at h';have bm2:yn=(⟨args'⟩:KB)++Array.replicate (nt - args'.length) undef:=by
      apply Array.ext_getElem?;intro j;rw[Th j];by_cases hj:j<args'.length
      ·grind
      ·grind
     obtain⟨eY,fM,aL⟩:=uT h';intro cs
     let b:Frame:={(default:Frame) with fn:=f,kind:= .normal,roundOf:=none}
     have Px:Frame.enter P f ⟨args'⟩ .normal=b.atR {tmps:=yn,defers:=[]} [.code c]:=by
      simp[Frame.enter,Frame.atR,DP,b,bm2]
     obtain⟨a',w',td,⟨p,hp,β',g1,g2,g3,g4,g5⟩,Aa⟩:=CK (b:=b) (cs:=cs) (ro:=none) ok aU ih (j7 _ nt ih) (fun h=>by cases h) aT [] [.code c] cK A eY β {tmps:=yn,defers:=[]} w fM Tw inv trivial trivial;obtain⟨r,ey,bE⟩:=aL p hp;split at ey
     ·rename_i v mq;cases ey;obtain⟨v',lX,dJ⟩:=Yg (fn:=⟨nm,SY,ta,ps,rt,nf,nt,⟨rs⟩,some c,nr,ou,fi,el,ln,me,tn⟩) ok g2 g1 rfl mq;refine⟨.returned v',w',{b.atR a' td with mode:= .returning},⟨(v,p.2),bE _ xn,β',v',rfl,dJ,g2,g3,g4⟩,?_,rfl,rfl,g5,rfl,_,DP,lX⟩;show Steps P (lone (Frame.enter P f ⟨args'⟩ .normal) cs w) _;rw[Px];exact Aa
     ·cases ey
    ·cases h'
   ·cases h'
  |rd L=>
   intro l hl;have h':(match A.get L with
    |some ⟨.loop .ready fr n ps a b,_,_,_,_⟩=>
     bs (Nat.beq (bT args) (bT ps)&&fb (fun t=>Nat.blt t n) ps) (Kd ps args fr (fun fr=>
      kY (vG E sq (AH E sq bO pg aT depth) n (bO (AH E sq bO pg aT depth) n) (some L) aT [] [.code a,.beginRound,.code b] fr A) (fun p=>Pc L p.2))) none
    |_=>none)=some bt:=by
    rw[<-h];show _=(match pg (.rd L) args A with|some o=>some o|none=>_);rw[hq];rfl
   clear h;split at h'
   ·rename_i fr n ps x y es ex r ty hg;replace h':=aC h';rcases h' with⟨nu,h'⟩|⟨_,h'⟩
    ·rw[xf] at nu;have aE:args.length=ps.length:=by have:=xb nu.1;rw[eH,eH] at this;exact this
     have mI:∀t∈ps,t<n:=fun t ht=>xh (oR _ _ nu.2 t ht)
     obtain⟨rec,k1,k2,k3,k4,k5,k6,k7,k8⟩:=inv.cont L _ l hg hl;obtain⟨cK,hk,Tw⟩:=W5 ps args args' fr rec.tmps _ pI mI ⟨k7,k8⟩;rw[hk] at h';obtain⟨eY,fM,aL⟩:=uT h';have aV:(⟨args'⟩:KB).size=rec.params.size:=by rw[k4];simp[<-pI.1,aE]
     refine⟨rec.fn,_,rec.assign,rec.body,run_yield k1 aV,trivial,fun c cs _=> ?_⟩
     let b:Frame:={(default:Frame) with fn:=rec.fn,kind:= .normal,roundOf:=some l.b}
     have Th:(rec.params.zip ⟨args'⟩).foldl (fun tmps (p:Nat×xM)=>tmps.setIfInBounds p.1 p.2) rec.tmps=(ps.zip args').foldl (fun tmps (p:Nat×xM)=>tmps.setIfInBounds p.1 p.2) rec.tmps:=by
      rw[k4];simp
     have EA:Frame.round l.b rec.fn ((rec.params.zip ⟨args'⟩).foldl (fun tmps (p:Nat×xM)=>tmps.setIfInBounds p.1 p.2) rec.tmps) rec.assign rec.body .normal=b.atR {tmps:=(ps.zip args').foldl (fun tmps (p:Nat×xM)=>tmps.setIfInBounds p.1 p.2) rec.tmps,defers:=[]} [.code x,.beginRound,.code y]:=by
      rw[Th,k5,k6];simp[Frame.round,Frame.atR,b]
     obtain⟨a',w',td,⟨p,hp,β',g1,g2,g3,g4,g5⟩,Aa⟩:=CK (b:=b) (cs:=c::cs) (ro:=some L) ok aU ih (j7 _ n ih) (fun _=>⟨rfl,c,cs,rfl⟩) aT [] [.code x,.beginRound,.code y] cK A eY β {tmps:=(ps.zip args').foldl (fun tmps (p:Nat×xM)=>tmps.setIfInBounds p.1 p.2) rec.tmps,defers:=[]} w fM Tw inv trivial ⟨l,hl,rfl⟩;obtain⟨r,ey,bE⟩:=aL p hp;have fG:β' L=some l:=(g3.f L (inv.ft L l hl)).trans hl;obtain⟨v,hv,uc⟩:∃v,r=[(.bool v,p.2)]/\Lu w' b.roundOf= .bool v:=by
      unfold Pc at ey;split at ey
      ·rename_i Eu;obtain⟨bu8,e1,_,e3,_⟩:=g2.cont L _ l Eu fG;cases ey;exact⟨true,rfl,by show(match w'.heap[l.b]? with|some (.loop rec)=>Value.bool rec.pending.isNone|_=> .bool true)=_;grind⟩
      ·rename_i Eu;obtain⟨bu8,e1,_,e3,_⟩:=g2.cont L _ l Eu fG;cases ey;exact⟨false,rfl,by show(match w'.heap[l.b]? with|some (.loop rec)=>Value.bool rec.pending.isNone|_=> .bool true)=_;grind⟩
      ·cases ey
     subst hv;refine⟨.returned (.bool v),w',⟨(.bool v,p.2),bE _ xn,β',.bool v,rfl,.bool v,g2,g3,g4⟩,?_⟩;unfold yS at Aa;simp only [uc] at Aa;refine comesIn_wide.2 ?_;show Steps P (lone (Frame.round l.b rec.fn _ rec.assign rec.body .normal) (c::cs) w) _
     grind
    ·cases h'
   ·cases h'
end
def bit(m i:Nat):Bool:=Nat.beq (Nat.mod (Nat.div m (Nat.pow 2 i)) 2) 1
theorem tJ(m i:Nat):bit m i=m.testBit i:=by
 unfold bit;rw[pM,Nat.testBit_eq_decide_div_mod_eq];rfl
def QZ(g:Nat->Nat)(i m:Nat):Nat->Nat:=fun k=>bs (Nat.beq k i) m (g k)
def AQ(g:Nat->Nat)(l:List Edge):Nat:=
 List.rec (motive:=fun _=>Nat) 0 (fun e _ s=>bs (Region.binds .any e) (Nat.lor s (Nat.lor (Nat.pow 2 e.on) (g e.on))) s) l
def bfF(ops:HF):Nat->(Nat->Nat)->(Nat->Nat):=
 List.rec (motive:=fun _=>Nat->(Nat->Nat)->(Nat->Nat)) (fun _ g=>g) (fun o _ ih i g=>ih (Nat.add i 1) (QZ g i (AQ g o.after.toList))) ops
def j8(ops:HF):Nat->Nat:=bfF ops 0 (fun _=>0)
def zz(ops:HF)(D:Nat->Prop):Prop:=∀j oj,ops[j]? =some oj->D j->∀e∈oj.after.toList,Region.binds .any e=true->D e.on
theorem V0(D:Nat->Prop)(g:Nat->Nat)(hg:∀k j,(g k).testBit j=true->D k->D j):∀(l:List Edge),(∀e∈l,Region.binds .any e=true->D e.on)->∀j,(AQ g l).testBit j=true->D j
 |[],_,j,h=>by rw[show AQ g []=0 from rfl,Nat.zero_testBit] at h;cases h
 |e::l,hl,j,h=>by
  have ih:=V0 D g hg l (fun x hx=>hl x (xo _ hx)) j;have h':(bs (Region.binds .any e) (Nat.lor (AQ g l) (Nat.lor (Nat.pow 2 e.on) (g e.on))) (AQ g l)).testBit j=true:=h;cases hb:Region.binds .any e with
  |false=>grind [kz]
  |true=>
   rw[hb,fK] at h';have h2:((AQ g l)|||(2^e.on|||g e.on)).testBit j=true:=h'
   grind
theorem Ww{ops:HF}{D:Nat->Prop}(hD:zz ops D):∀(l:HF) (i:Nat) (g:Nat->Nat),(∀k,l[k]? =ops[i+k]?)->(∀k j,(g k).testBit j=true->D k->D j)->∀k j,(bfF l i g k).testBit j=true->D k->D j
 |[],_,_,_,hg=>hg
 |o::l,i,g,hl,hg=>by
  refine Ww hD l (i+1) (QZ g i (AQ g o.after.toList)) (fun k=> ?_) (fun k j h hk=> ?_)
  ·have:=hl (k+1)
   grind
  ·unfold QZ at h;rw[pM] at h;by_cases iu:k=i
   ·rw[decide_eq_true iu,fK] at h;subst iu;have ho:ops[k]? =some o:=by have:=hl 0;simpa using this.symm
    exact V0 D g hg _ (hD k o ho hk) j h
   grind [decide_eq_false,kz,hk]
theorem Ni{ops:HF}{D:Nat->Prop}(hD:zz ops D){k j:Nat}(h:bit (j8 ops k) j=true)(hk:D k):D j:=by
 rw[tJ] at h;exact Ww hD ops 0 (fun _=>0) (fun k=>NS) (fun k j h=>Ns) k j h hk
theorem Ff{ops:HF}{D:Nat->Prop}(hD:zz ops D){k j:Nat}{o:Oper}(ho:ops[k]? =some o)(hr:∀e∈o.after.toList,Region.binds .any e=true->D e.on)(h:bit (j8 ops k) j=true):D j\/j=k:=by
 have hD':zz ops (fun x=>D x\/x=k):=fun i oi hi hd e he hb=>by
  rcases hd with hd|rfl
  ·exact .inl (hD i oi hi hd e he hb)
  grind
 exact Ni hD' h (.inr rfl)
structure Tr where
 i:Nat
 dst:Option Tmp
 v:xM
def iQ(g:Gt)(dst:Option Tmp)(v:xM):Gt:=match dst with|none=>g|some d=>fun t=>bs (Nat.beq t d) v (g t)
theorem Cj(g:Gt)(dst:Option Tmp)(v:xM)(t:Nat):iQ g dst v t=if dst=some t then v else g t:=by
 cases dst with
 |none=>rw[if_neg NS];rfl
 |some d=>
  show bs (Nat.beq t d) v (g t)=_;rw[pM];by_cases h:t=d
  ·subst h;rw[decide_eq_true rfl,if_pos rfl];rfl
  ·rw[decide_eq_false h,if_neg (fun e=>h (xC e).symm)];rfl
open Classical in
def gv(D:Nat->Prop):List Tr->Gt->Gt
 |[],g0=>g0
 |x::tr,g0=>if D x.i then iQ (gv D tr g0) x.dst x.v else gv D tr g0
theorem u9(D:Nat->Prop)(g0:Gt)(t:Nat):∀tr:List Tr,(∃x∈tr,D x.i/\x.dst=some t/\gv D tr g0 t=x.v)\/((∀x∈tr,D x.i->x.dst≠some t)/\gv D tr g0 t=g0 t)
 |[]=> .inr ⟨fun x hx=>(by cases hx),rfl⟩
 |x::tr=>by
  by_cases hD:D x.i
  ·have e:gv D (x::tr) g0 t=iQ (gv D tr g0) x.dst x.v t:=by rw[gv,if_pos hD]
   rw[e,Cj];by_cases hd:x.dst=some t
   ·grind
   ·rw[if_neg hd];rcases u9 D g0 t tr with⟨y,hy,a,b,c⟩|⟨a,b⟩
    ·exact .inl ⟨y,xo _ hy,a,b,c⟩
    ·refine .inr ⟨fun y hy Mx=> ?_,b⟩;cases hy with
     |head=>exact hd
     |tail _ hy=>exact a y hy Mx
  ·have e:gv D (x::tr) g0 t=gv D tr g0 t:=by rw[gv,if_neg hD]
   rw[e];rcases u9 D g0 t tr with⟨y,hy,a,b,c⟩|⟨a,b⟩
   ·exact .inl ⟨y,xo _ hy,a,b,c⟩
   ·refine .inr ⟨fun y hy Mx=> ?_,b⟩;cases hy with
    |head=>exact absurd Mx hD
    |tail _ hy=>exact a y hy Mx
theorem MU(x:Tr)(tr:List Tr)(g0:Gt):gv (fun _=>True) (x::tr) g0=iQ (gv (fun _=>True) tr g0) x.dst x.v:=by
 rw[gv,if_pos trivial]
def nO(ops:HF):List Tr->Prop
 |[]=>True
 |x::tr=>nO ops tr/\(∀y∈tr,y.i≠x.i)/\∃o,ops[x.i]? =some o/\x.dst=o.dst/\∀e∈o.after.toList,Region.binds .any e=true->∃y∈tr,y.i=e.on
theorem nO.rC{ops:HF}:∀{tr:List Tr},nO ops tr->zz ops (fun j=>∃y∈tr,y.i=j)
 |[],_=>fun j oj _ ⟨y,hy,_⟩=>by cases hy
 |x::tr,⟨h1,h2,o,ho,hd,he⟩=>fun j oj hj ⟨y,hy,hyj⟩ e Ev hb=>by
  cases hy with
  |head=>
   grind
  |tail _ hy=>
   obtain⟨z,hz,hzi⟩:=h1.rC j oj hj ⟨y,hy,hyj⟩ e Ev hb
   grind
theorem nO.op{ops:HF}:∀{tr:List Tr},nO ops tr->∀x∈tr,∃o,ops[x.i]? =some o/\x.dst=o.dst
 |[],_,x,hx=>by cases hx
 |y::tr,⟨h1,_,o,ho,hd,_⟩,x,hx=>by
  grind [h1.op]
theorem nO.GK{ops:HF}:∀{tr:List Tr},nO ops tr->∀x∈tr,∀y∈tr,x.i=y.i->x=y
 |[],_,x,hx,_,_,_=>by cases hx
 |z::tr,⟨h1,h2,_⟩,x,hx,y,hy,e=>by
  grind [absurd,e.symm,h1.GK]
def looks(ops:HF)(o:Oper)(t:Tmp):Bool:=(o.looksAt ⟨ops⟩).contains t
def Dq(ops:HF):Prop:=
 (∀(i:Nat) (oi:Oper) (j:Nat) (oj:Oper) (t:Tmp),ops[i]? =some oi->ops[j]? =some oj->t∈oi.looksAt ⟨ops⟩->oj.dst=some t->j=i\/bit (j8 ops i) j=true\/bit (j8 ops j) i=true)/\
 (∀(i:Nat) (oi:Oper) (j:Nat) (oj:Oper) (t:Tmp),ops[i]? =some oi->ops[j]? =some oj->oi.dst=some t->oj.dst=some t->i=j)
theorem Z'{ops:HF}(hs:Dq ops){D:Nat->Prop}(hD:zz ops D){i:Nat}{o:Oper}(ho:ops[i]? =some o)(hr:∀e∈o.after.toList,Region.binds .any e=true->D e.on)(wv: ¬D i)
 {tr tl pre:List Tr} {x0:Tr} (Mb:tr=pre++x0::tl) (Bx:x0.i=i) (hw:nO ops tr) (hw0:nO ops (x0::tl)) (g0:Gt) {t:Tmp} (ht:t∈o.looksAt ⟨ops⟩):gv D tr g0 t=gv (fun _=>True) tl g0 t:=by
 have sub:∀y∈tl,y∈tr:=fun y hy=>Ns
 have cn4:x0∈tr:=by rw[Mb];exact List.mem_append_right _ xn
 obtain⟨Ej,ae5,o',iY,_,bn8⟩:=hw0;rw[Bx,ho] at iY;cases iY;have bv8:∀j,bit (j8 ops i) j=true->j≠i->∃y∈tl,y.i=j:=fun j hb bo=>
  (Ff (Ej.rC) ho bn8 hb).resolve_right bo
 rcases u9 D g0 t tr with⟨x,hx,TN,L9,hv⟩|⟨jh,hv⟩
 ·obtain⟨ox,Mh,zd⟩:=hw.op x hx;have sR:x.i≠i:=fun e=>wv (e▸TN)
  rcases hs.1 i o x.i ox t ho Mh ht (zd▸L9) with e|e|e
  ·grind
  ·obtain⟨y,hy,HC⟩:=bv8 x.i e sR;have hyx:y=x:=hw.GK y (sub y hy) x hx HC;subst hyx;rcases u9 (fun _=>True) g0 t tl with⟨z,hz,_,hzt,dJ⟩|⟨cp0,_⟩
   ·obtain⟨oz,hoz,hdz⟩:=hw.op z (sub z hz);have:=hs.2 z.i oz y.i ox t hoz Mh (hdz▸hzt) (zd▸L9)
    grind [hw.GK]
   grind
  grind [absurd,Ni]
 ·rcases u9 (fun _=>True) g0 t tl with⟨y,hy,_,hyt,_⟩|⟨_,dJ⟩
  ·exfalso;obtain⟨oy,Tk,qL⟩:=hw.op y (sub y hy);have HC:y.i≠i:=fun e=>ae5 y hy (e.trans Bx.symm)
   rcases hs.1 i o y.i oy t ho Tk ht (qL▸hyt) with e|e|e
   ·exact HC e
   ·grind [Ff]
   ·
    have hc:=Ej.rC;obtain⟨z,hz,hzi⟩:=Ni hc e ⟨y,hy,rfl⟩
    grind
  grind
theorem B8{α γ:Type}{f g:α->γ}:∀{l:List α},(∀x∈l,f x=g x)->fC f l=fC g l
 |[],_=>rfl
 |a::l,h=>by
  show f a::fC f l=g a::fC g l;rw[h a xn,B8 (fun x hx=>h x (xo _ hx))]
theorem Vh{E:az}{sq:Cf}{A:AW}{g g':Gt}{op:Op}(h:∀x∈op.operands,ev E g x=ev E g' x):aQ E sq A g op=aQ E sq A g' op:=by
 cases op
 case move x=>grind [aQ,Op.operands]
 case assign x=>grind [aQ,Op.operands]
 case pick c a b=>grind [aQ,Op.operands]
 case box t x=>grind [aQ,Op.operands]
 case build t ps=>
  obtain⟨ps⟩:=ps;simp only [aQ];rw[B8 (fun p hp=>by rw[h p.2 (by simp only [Op.operands,List.mem_toArray,xJ];grind)])]
 case buildSlice t n ps=>
  obtain⟨ps⟩:=ps;simp only [aQ];rw[B8 (fun p hp=>by rw[h p.2 (by simp only [Op.operands,List.mem_toArray,xJ];grind)])]
 case load t a=>grind [aQ,Op.operands]
 case store t a v=>grind [aQ,Op.operands]
 case nilCheck x=>grind [aQ,Op.operands]
 case binOp o t x y ty=>grind [aQ,Op.operands]
 case unOp o t x=>grind [aQ,Op.operands]
 case convert s d x=>grind [aQ,Op.operands]
 case makeFunc fn p q=>
  obtain⟨p⟩:=p;obtain⟨q⟩:=q;cases fn<;>simp only [aQ]
  grind [B8,Op.operands]
 case makeSlice t l c=>grind [aQ,Op.operands]
 case slice t x lo hi mx=>
  simp only [aQ];rw[h x (by simp[Op.operands])];have e1:lo.map (ev E g)=lo.map (ev E g'):=by cases lo with|none=>rfl|some y=>exact congrArg some (h y (by simp[Op.operands]))
  have e2:hi.map (ev E g)=hi.map (ev E g'):=by cases hi with|none=>rfl|some y=>exact congrArg some (h y (by simp[Op.operands]))
  have e3:mx.map (ev E g)=mx.map (ev E g'):=by cases mx with|none=>rfl|some y=>exact congrArg some (h y (by simp[Op.operands]))
  grind
 case fieldAddr t x f=>grind [aQ,Op.operands]
 case field t x f=>grind [aQ,Op.operands]
 case indexAddr t x i=>grind [aQ,Op.operands]
 case index t x i=>grind [aQ,Op.operands]
 case extract x i=>grind [aQ,Op.operands]
 case call c=>
  obtain⟨Gb,⟨args⟩,tys⟩:=c;have pI:∀x∈args,ev E g x=ev E g' x:=fun x hx=>h x (by simp[Op.operands,Call.operands,hx])
  cases Gb with
  |value f=>
   grind [aQ,Op.operands,Call.operands,B8]
  |invoke r m=>simp only [aQ]
  |builtin b=>
   obtain⟨tys⟩:=tys
   grind [aQ,B8]
 case makeMap t r=>simp only [aQ]
 case lookup t x k b=>grind [aQ,Op.operands]
 case mapUpdate t m k x=>grind [aQ,Op.operands]
 case insert t m k x=>grind [aQ,Op.operands]
 case mapEntry t m k=>grind [aQ,Op.operands]
 case entryStore t m k x=>grind [aQ,Op.operands]
 case range t x=>grind [aQ,Op.operands]
 case next it b=>
  cases b
  ·grind [aQ,Op.operands]
  ·simp only [aQ]
 case entry it=>grind [aQ,Op.operands]
 all_goals simp only [aQ]
theorem aq4{E:az}{sq:Cf}{g g':Gt}{op:Op}(h:∀x∈op.operands,ev E g x=ev E g' x):keyOf E sq g op=keyOf E sq g' op:=by
 cases op
 case binOp b t x y ty=>simp only [keyOf];grind [Op.operands]
 case unOp u t x=>grind [keyOf,Op.operands]
 case convert s d x=>simp only [keyOf];grind [Op.operands]
 case index t x i=>simp only [keyOf];grind [Op.operands]
 case indexAddr t x i=>simp only [keyOf];grind [Op.operands]
 case fieldAddr t x f=>simp only [keyOf];grind [Op.operands]
 case load t x=>grind [keyOf,Op.operands]
 case nilCheck x=>grind [keyOf,Op.operands]
 case slice t x lo hi mx=>
  cases mx with
  |some y=>rfl
  |none=>
   simp only [keyOf];have e1:pU E g lo=pU E g' lo:=by cases lo with|none=>rfl|some y=>exact h y (by simp[Op.operands])
   have e2:qI E g hi=qI E g' hi:=by cases hi with|none=>rfl|some y=>exact congrArg (fun v=>[v]) (h y (by simp[Op.operands]))
   grind [Op.operands]
 case call c=>
  obtain⟨Gb,⟨args⟩,⟨tys⟩⟩:=c;cases Gb with
  |builtin b=>
   cases b
   case len=>
    match args,tys with
    |[x],[t]=>simp only [keyOf];grind [Op.operands,Call.operands]
    |[],_=>rfl
    |_::_::_,_=>rfl
    |[_],[]=>rfl
    |[_],_::_::_=>rfl
   case max=>
    grind [keyOf,qc,List.map_congr_left,Op.operands,Call.operands]
   case min=>
    grind [keyOf,qc,List.map_congr_left,Op.operands,Call.operands]
   all_goals rfl
  |_=>rfl
 all_goals rfl
theorem ap6{E:az}{sq:Cf}{g g':Gt}{op:Op}(h:∀x∈op.operands,ev E g x=ev E g' x)(nd:Node):yp E sq g op nd=yp E sq g' op nd:=by
 unfold yp;rw[aq4 h]
theorem as9{E:az}{A:AW}{g g':Gt}{op:Op}(h:∀x∈op.operands,ev E g x=ev E g' x):yF E A g op=yF E A g' op:=by
 unfold yF;split
 ·grind [Op.operands,Call.operands]
 ·grind [Op.operands]
 ·grind [Op.operands]
 ·grind [Op.operands]
 ·rfl
theorem U0{E:az}{sq:Cf}{A:AW}{g g':Gt}{op:Op}(h:∀x∈op.operands,ev E g x=ev E g' x)(nd:Node):n9 E sq A g op nd=n9 E sq A g' op nd:=by
 grind [n9,as9,ap6]
theorem as2{E:az}{sq:Cf}{A:AW}{g g':Gt}{op:Op}(h:∀x∈op.operands,ev E g x=ev E g' x):pL E sq A g op=pL E sq A g' op:=by
 unfold pL;split
 ·grind [Op.operands,Call.operands]
 ·grind [Op.operands]
 ·grind [Op.operands]
 ·grind [Op.operands]
 ·grind [Op.operands,Call.operands]
 ·grind [Op.operands,Call.operands]
 ·rename_i t x lo hi;have e1:pU E g lo=pU E g' lo:=by cases lo with|none=>rfl|some y=>exact h y (by simp[Op.operands])
  have e2:qI E g hi=qI E g' hi:=by cases hi with|none=>rfl|some y=>exact congrArg (fun v=>[v]) (h y (by simp[Op.operands]))
  grind [Op.operands]
 ·grind [Op.operands,Call.operands]
 ·grind [Op.operands,Call.operands]
 ·rfl
 ·grind [Op.operands]
 ·grind [Op.operands]
 ·grind [Op.operands]
 ·grind [Op.operands]
 ·rfl
theorem aq1{E:az}{g g':Gt}{op:Op}(h:∀x∈op.operands,ev E g x=ev E g' x):Kg E g op=Kg E g' op:=by
 unfold Kg
 grind [Op.operands,Call.operands]
theorem ax0{E:az}{sq:Cf}{A:AW}{g g':Gt}{op:Op}(h:∀x∈op.operands,ev E g x=ev E g' x):iL E sq A g op=iL E sq A g' op:=by
 grind [iL,JK,Vh,ar7,U0,as2,aq1]
theorem aH8{E:az}{g g':Gt}{x:Operand}(h:∀t,x= .tmp t->g t=g' t):ev E g x=ev E g' x:=by
 cases x with
 |tmp t=>exact h t rfl
 |_=>rfl
def vg(op:Op):Bool:=
 match op with
 | .move _=>true
 | .assign _=>true
 | .pick _ _ _=>true
 | .build _ _=>true
 | .nilCheck _=>true
 | .binOp _ _ _ _ _=>true
 | .unOp _ _ _=>true
 | .makeFunc _ _ _=>true
 | .fieldAddr _ _ _=>true
 | .field _ _ _=>true
 | .indexAddr _ _ _=>true
 | .index _ _ _=>true
 | .extract _ _=>true
 |_=>false
def gM(E:az)(op:Op):Nat:=
 match op with
 | .load _ _=>0
 | .convert _ d _=>match E.ti.get none d with|some ⟨.slice _,_,_,_,_⟩=>2|_=>0
 | .slice _ _ _ _ _=>0
 | .call ⟨.builtin .len,_,_⟩=>0
 | .call ⟨.builtin .min,_,_⟩=>0
 | .call ⟨.builtin .max,_,_⟩=>0
 | .alloc _=>1
 | .box _ _=>1
 | .buildSlice _ _ _=>1
 | .makeSlice _ _ _=>1
 |op=>bif vg op then 0 else 2
section
variable{P:Program}{E:az}(ok:E.Ok P){sq:Cf}{w0 w:World}{β:ai}{A:AW}
theorem VZ{A2:AW}{g:Gt}{op:Op}{v:xM}{A':AW}(hp:vg op=true)(h:aQ E sq A g op= .val v A'):A'=A/\aQ E sq A2 g op= .val v A2:=by
 cases op<;>try(cases hp;done)
 case makeFunc fn p q=>
  obtain⟨p⟩:=p;obtain⟨q⟩:=q;cases fn<;>simp only [aQ] at h⊢<;>cases h
  grind
 case build t ps=>
  obtain⟨ps⟩:=ps;simp only [aQ] at h⊢;obtain⟨h1,rfl⟩:=tF h;exact⟨rfl,by rw[h1];rfl⟩
 all_goals
  simp only [aQ] at h⊢
  first
  |(cases h;exact⟨rfl,rfl⟩)
  |(obtain⟨h1,rfl⟩:=tF h
    exact⟨rfl,by rw[h1];rfl⟩)
theorem M0{g:Gt}{op:Op}{v:xM}{A':AW}(hk:gM E op=0)(h:aQ E sq A g op= .val v A'):A'=A:=by
 cases hp:vg op with
 |true=>exact(VZ (A2:=A) hp h).1
 |false=>
  cases op<;>simp only [gM,hp] at hk<;>try(cases hk;done)
  case load t x=>simp only [aQ] at h;exact(tF h).2
  case slice t x lo hi mx=>simp only [aQ] at h;exact(tF h).2
  case convert s d x=>
   simp only [aQ,Dm] at h;split at h
   ·cases h;rfl
   ·split at h
    ·cases h;rfl
    ·cases h
  case call c=>
   obtain⟨Gb,⟨args⟩,⟨tys⟩⟩:=c;cases Gb with
   |value f=>cases hk
   |invoke r m=>cases hk
   |builtin b=>
    simp only [aQ,Cs] at h;split at h
    ·exact(tF h).2
    all_goals first
     |(cases hk;done)
     |(cases h;done)
     |exact(tF h).2
include ok in
theorem aH4{A2:AW}(inv:Inv w0 E.G β A2 w){n:Nat}{g:Gt}{a:Act}(hf:bU β n g a.tmps){o:Oper}{v:xM}{A':AW}(hk:gM E o.op=1)(h:aQ E sq A g o.op= .val v A'):
 ∃cs es bB e v',A'=A.add ⟨.cells cs,es,true,false,e⟩/\(execOp a.eval o).run P w= .ok (.value v') (w.alloc (.cells ⟨bB⟩ e))/\aZ β cs bB/\∀β':ai,β' A.next=some ⟨w.heap.size,0,es,bB.length⟩->aj β' v v':=by
 obtain⟨dst,op,type,cq,after,guard⟩:=o;have E1:=kB (a:=a) inv hf;simp only at hk h;cases hp:vg op with
 |true=>cases op<;>simp only [gM,vg] at hk hp<;>first|(cases hp;done)|(cases hk;done)
 |false=>
  cases op<;>simp only [gM,hp] at hk<;>try(cases hk;done)
  case convert s d x=>grind
  case alloc t=>
   simp only [aQ] at h;obtain⟨cs,es,e,rfl,bB,v',h1,h2,h3⟩:=Wz (P:=P) ok (ma h) β w;exact⟨cs,es,bB,e,v',rfl,by simp[execOp,h1],h2,h3⟩
  case box t x=>
   simp only [aQ] at h;obtain⟨cs,es,e,rfl,bB,v',h1,h2,h3⟩:=YP (P:=P) (t:=t) (ma h) (E1 x) w;exact⟨cs,es,bB,e,v',rfl,by simp[execOp,h1],h2,h3⟩
  case buildSlice t len ps=>
   obtain⟨ps⟩:=ps;simp only [aQ] at h;obtain⟨cs,es,e,rfl,bB,v',h1,h2,h3⟩:=UB (P:=P) ok (ma h) (I2 hf inv ps) w;refine⟨cs,es,bB,e,v',rfl,?_,h2,h3⟩;have:(Instr.buildSlice t len (Array.map (fun(p:Nat×Operand)=>(p.1,a.eval p.2)) ⟨ps⟩)).run P w= .ok v' (w.alloc (.cells ⟨bB⟩ e)):=by simpa using h1
   show(do pure (Next.value (<-Instr.buildSlice t len (Array.map (fun(p:Nat×Operand)=>(p.1,a.eval p.2)) ⟨ps⟩))):Sem Next).run P w=_
   simp_all
  case makeSlice t x y=>
   simp only [aQ] at h;obtain⟨cs,es,e,rfl,bB,v',h1,h2,h3⟩:=UE (P:=P) ok (ma h) (E1 x) (E1 y) w;exact⟨cs,es,bB,e,v',rfl,by simp[execOp,h1],h2,h3⟩
  grind
theorem Inv.map(h:Inv w0 E.G β A w)(N:Nat)(hN:N<A.next)(hb:β N=none)(o:Obj)(l:Loc)(hl:l.b=w.heap.size)(iS:∀blk,A.get N=some blk->gB (β.put N l) l blk (some o)):
 Inv w0 E.G (β.put N l) A (w.alloc o):=by
 have jm:∀B lb,β.put N l B=some lb->(B=N/\lb=l)\/(B≠N/\β B=some lb):=fun B lb e=>by
  rw[ai.tL] at e
  grind
 have aN:β.le (β.put N l):=⟨fun B lb e=>by
  rw[ai.tL]
  grind,fun _ _ h=>h,fun _ _ h=>h,rfl,rfl⟩
 have aV:(w.alloc o).heap.size=w.heap.size+1:=NS
 refine⟨h.below.alloc o,fun B lb e=> ?_,h.du,fun B lb e=> ?_,fun B B' lb Bs e e' eG ha kR=> ?_,fun B k lb hk e=> ?_,fun g hg=> ?_,fun b cs hz=>Uv (h.dB b cs hz),fun B lb kb hG e ha hs=> ?_,h.dX,fun B k hk=>(h.own B k hk).mono aN,h.iG,h.lay,h.xg,h.jM,h.zo,fun b hh hy=> ?_⟩
 ·rcases jm B lb e with⟨e1,_⟩|⟨_,e⟩
  ·omega
  ·exact h.ft B lb e
 ·rw[aV];rcases jm B lb e with⟨_,e2⟩|⟨_,e⟩
  ·grind [h.below.size]
  ·exact⟨Nat.lt_succ_of_lt (h.loc B lb e).1,(h.loc B lb e).2⟩
 ·rcases jm B lb e with⟨h1,h2⟩|⟨hB,f⟩<;>rcases jm B' Bs e' with⟨qN,TT⟩|⟨uK,f'⟩
  ·rw[h1,qN]
  ·have:=(h.loc B' Bs f').1;grind
  ·have:=(h.loc B lb f).1;grind
  grind [h.inj]
 ·rcases jm B lb e with⟨h1,h2⟩|⟨hB,f⟩
  ·grind [hk,heap_alloc_new]
  ·rw[Below.heap_alloc w o _ (h.loc B lb f).1];exact(h.cont B k lb hk f).mono aN
 ·grind [h.jn,aN.f]
 ·rcases jm B lb e with⟨_,h2⟩|⟨hB,f⟩
  ·rw[h2];exact h.YY MK
  ·exact h.sep B lb kb hG f ha hs
 ·obtain⟨y1,y2,y3,y4⟩:=h.dP b hh hy;have bP:=(Array.getElem?_eq_some_iff.1 y1).1;refine⟨by grind [Below.heap_alloc],y2,y3,fun B lb e ha=> ?_⟩
  grind
end
def KO(a b:aG):Bool:=
 match a,b with
 |⟨.cells x,e,ex,ro,ty⟩,⟨.cells y,e',fY,fT,gj⟩=>nI x y&&Nat.beq e e'&&bs ex fY (not fY)&&bs ro fT (not fT)&&Nat.beq ty gj
 |⟨.own x,e,ex,ro,ty⟩,⟨.own y,e',fY,fT,gj⟩=>v5 x y&&Nat.beq e e'&&bs ex fY (not fY)&&bs ro fT (not fT)&&Nat.beq ty gj
 |_,_=>false
theorem Wv{a b:aG}(h:KO a b=true):a=b:=by
 unfold KO at h;split at h
 ·rename_i x e ex ro ty y e' fY fT gj;simp only [xf] at h;rw[oQ _ _ h.1.1.1.1,xb h.1.1.1.2,xb h.2];have h1:ex=fY:=by have:=h.1.1.2;cases ex<;>cases fY<;>first|rfl|cases this
  have h2:ro=fT:=by have:=h.1.2;cases ro<;>cases fT<;>first|rfl|cases this
  rw[h1,h2]
 ·rename_i x e ex ro ty y e' fY fT gj;simp only [xf] at h;rw[FO h.1.1.1.1,xb h.1.1.1.2,xb h.2];have h1:ex=fY:=by have:=h.1.1.2;cases ex<;>cases fY<;>first|rfl|cases this
  have h2:ro=fT:=by have:=h.1.2;cases ro<;>cases fT<;>first|rfl|cases this
  rw[h1,h2]
 ·cases h
structure iy where
 i:Nat
 o:Oper
 g:Gt
 v:xM
 wanted:Bool
 nb:Option (Nat×aG)
 sy:Option Node
def vF(E:az)(sq:Cf)(A:AW)(e:iy):Bool:=
 bs e.wanted (match e.nb with
  |some (N,blk)=>(match A.get N with|none=>true|some b=>KO b blk)
  |none=>match e.sy with
   |some nd=>(match n9 E sq A e.g e.o.op nd with|some v=>v5 v e.v|none=>false)
   |none=>bs (vg e.o.op) true (match Ed e.o.op E sq A e.g with| .val v _=>v5 v e.v|_=>false)) true
def FW{ρ:Type}(E:az)(sq:Cf)(call:eL->C3->AW->bp xM)(ops:HF)(ih:List iy->Gt->AW->List Tr->Option ρ)(i:Nat)(bl:List iy)(g:Gt)(A:AW)(tr:List Tr):Option ρ:=
 match dM ops i with
 |none=>none
 |some o=>match pB ops g o with
  |none=>none
  |some wd=>
   bs (Nat.ble 2 (gM E o.op))
    (bs (fb (vF E sq A) bl)
     (bs wd
      (match iL E sq A g o.op with
      | .val v A'=>yj v (fun v=>vm A' (fun A'=>ih (nY (fun e=>not (bit (j8 ops i) e.i)) bl) (iQ g o.dst v) A' (⟨i,o.dst,v⟩::tr)))
      | .call f args=>(match call f args A with
       |some [(v,A')]=>ih (nY (fun e=>not (bit (j8 ops i) e.i)) bl) (iQ g o.dst v) A' (⟨i,o.dst,v⟩::tr)
       |_=>none)
      | .fail=>none
      | .nd _=>none)
      (ih (nY (fun e=>not (bit (j8 ops i) e.i)) bl) (iQ g o.dst undef) A (⟨i,o.dst,undef⟩::tr))) none)
    (bs wd
     (match Ed o.op E sq A g with
     | .val v A'=>yj v (fun v=>vm A' (fun A'=>
      bs (Nat.beq (gM E o.op) 1)
       (match A'.get A.next with
       |some b=>ih (⟨i,o,g,v,true,some (A.next,b),none⟩::bl) (iQ g o.dst v) A' (⟨i,o.dst,v⟩::tr)
       |none=>none)
       (ih (⟨i,o,g,v,true,none,none⟩::bl) (iQ g o.dst v) A' (⟨i,o.dst,v⟩::tr))))
     | .fail=>(match A.tape with
      |[]=>none
      |nd::r=>match n9 E sq A g o.op nd with
       |some v=>ih (⟨i,o,g,v,true,none,some nd⟩::bl) (iQ g o.dst v) (A.pop r) (⟨i,o.dst,v⟩::tr)
       |none=>none)
     |_=>none)
     (ih (⟨i,o,g,undef,false,none,none⟩::bl) (iQ g o.dst undef) A (⟨i,o.dst,undef⟩::tr)))
def z6{ρ:Type}(E:az)(sq:Cf)(call:eL->C3->AW->bp xM)(ops:HF)(fin:List iy->Gt->AW->List Tr->Option ρ)(L:Es):List iy->Gt->AW->List Tr->Option ρ:=
 List.rec (motive:=fun _=>List iy->Gt->AW->List Tr->Option ρ) fin (fun i _ ih=>FW E sq call ops ih i) L
def PC(E:az)(sq:Cf)(bl:List iy)(_:Gt)(A:AW)(tr:List Tr):Option (List Tr×AW):=bs (fb (vF E sq A) bl) (some (tr,A)) none
def FT(bL:Nat)(o:Oper):Bool:=fb (fun e=>bs (Region.binds .any e) (bit bL e.on) true) o.after.toList
def Bg(E:az)(ops:HF)(ih:Nat->Option Nat->Bool)(i bL:Nat)(sk:Ji):Bool:=
 match dM ops i with
 |none=>false
 |some o=>not (bit bL i)&&FT bL o&& (match sk with|none=>true|some e=>bit (j8 ops i) e)&&ih (Nat.lor bL (Nat.pow 2 i)) (bs (Nat.ble 2 (gM E o.op)) (some i) sk)
def vR(E:az)(ops:HF)(L:Es):Nat->Option Nat->Bool:=
 List.rec (motive:=fun _=>Nat->Option Nat->Bool) (fun _ _=>true) (fun i _ ih=>Bg E ops ih i) L
def r7{α:Type}(f:Nat->α->Bool)(l:List α):Nat->Bool:=
 List.rec (motive:=fun _=>Nat->Bool) (fun _=>true) (fun a _ ih i=>bs (f i a) (ih (Nat.add i 1)) false) l
theorem Cn{α:Type}(f:Nat->α->Bool):∀(l:List α) (k:Nat),r7 f l k=true->∀i a,l[i]? =some a->f (k+i) a=true
 |[],_,_,i,a,h=>by simp at h
 |b::l,k,h,i,a,hi=>by
  have h':bs (f k b) (r7 f l (k+1)) false=true:=h;cases hb:f k b with
  |false=>rw[hb] at h';cases h'
  |true=>
   rw[hb,fK] at h';cases i with
   |zero=>simp at hi;subst hi;exact hb
   |succ i=>
    have:=Cn f l (k+1) h' i a (by simpa using hi);rw[show k+(i+1)=k+1+i by omega];exact this
def C4(ops:HF)(i:Nat)(oi:Oper)(j:Nat)(oj:Oper):Bool:=
 match oj.dst with
 |none=>true
 |some t=>bs ((oi.looksAt ⟨ops⟩).contains t) (Nat.beq j i||bit (j8 ops i) j||bit (j8 ops j) i) true&& (match oi.dst with|some t'=>bs (Nat.beq t' t) (Nat.beq i j) true|none=>true)
def bl2{α:Type}(f:α->Bool)(l:List α):Option α:=List.rec (motive:=fun _=>Option α) none (fun a _ ih=>bs (f a) (some a) ih) l
def Y9(E:az)(n:Nat)(ops:HF)(L:Es):Bool:=
 vR E ops L 0 none&&r7 (fun i _=>Hy i L) ops 0&&r7 (fun i oi=>r7 (fun j oj=>C4 ops i oi j oj) ops 0) ops 0&&fb (fun o=>match o.dst with|some d=>Nat.blt d n|none=>true) ops&&Region.noSelect ⟨ops⟩
theorem VU{ops:HF}(h:r7 (fun i oi=>r7 (fun j oj=>C4 ops i oi j oj) ops 0) ops 0=true):Dq ops:=by
 have key:∀(i:Nat) (oi:Oper) (j:Nat) (oj:Oper),ops[i]? =some oi->ops[j]? =some oj->C4 ops i oi j oj=true:=fun i oi j oj hi hj=>by
  have h1:=Cn _ ops 0 h i oi hi;rw[Nat.zero_add] at h1;have h2:=Cn _ ops 0 h1 j oj hj
  grind
 refine⟨fun i oi j oj t hi hj ht hd=> ?_,fun i oi j oj t hi hj np fJ=> ?_⟩
 ·have hb:=key i oi j oj hi hj;unfold C4 at hb;rw[hd] at hb;simp only [xf] at hb;have hc:(oi.looksAt ⟨ops⟩).contains t=true:=by simpa using ht
  rw[hc,fK] at hb;simp only [Bool.or_eq_true] at hb
  grind [xb]
 ·have hb:=key i oi j oj hi hj;unfold C4 at hb;rw[fJ] at hb;simp only [xf,np] at hb
  grind [Nat.beq,pM,fK,xb]
def Za(E:az)(ops:HF)(bL:Nat)(bD6:Bool)(rest:Es):Ji:=
 bl2 (fun i=>match dM ops i with|some o=>FT bL o&& (not bD6||Nat.blt (gM E o.op) 2)|none=>false) rest
def aW7(E:az)(ops:HF)(aT:Nat):Nat->List Nat->List Nat:=
 Nat.rec (motive:=fun _=>Nat->List Nat->List Nat) (fun _ _=>[])
  (fun _ ih bL rest=>match Za E ops bL true rest with
   |some i=>i::ih (Nat.lor bL (Nat.pow 2 i)) (nY (fun j=>not (Nat.beq j i)) rest)
   |none=>match Za E ops bL false rest with
    |some i=>i::ih (Nat.lor bL (Nat.pow 2 i)) (nY (fun j=>not (Nat.beq j i)) rest)
    |none=>[]) aT
def Jg(E:az)(ops:HF):Es:=aW7 E ops (bT ops) 0 (vL (fun i=>i) (bT ops) [])
def O3(n:Nat)(fr:Fr)(tr:List Tr):Option Fr:=
 List.rec (motive:=fun _=>Option Fr) (some fr) (fun x _ ih=>match ih with
  |none=>none
  |some cK=>match x.dst with
   |none=>some cK
   |some d=>bs (Nat.blt d n) (some (cK.set d x.v)) none) tr
theorem UX{n:Nat}{fr:Fr}:∀(tr:List Tr) (cK:Fr),O3 n fr tr=some cK->∀t,cK.get J t=gv (fun _=>True) tr (fr.get J) t\/cK.get J t=J
 |[],cK,h,t=>by cases h;exact .inl rfl
 |x::tr,cK,h,t=>by
  have h':(match O3 n fr tr with
   |none=>none
   |some cK=>match x.dst with
    |none=>some cK
    |some d=>bs (Nat.blt d n) (some (cK.set d x.v)) none)=some cK:=h
  clear h;rw[MU,Cj];split at h'
  ·cases h'
  ·rename_i f1 HX;have ih:=UX tr f1 HX t;split at h'
   ·grind
   ·rename_i d hd;replace h':=aC h';rcases h' with⟨_,h'⟩|⟨_,h'⟩
    ·cases h';by_cases uG:d=t
     ·subst uG;rw[if_pos hd];rcases T.tz J f1 d x.v with e|e
      ·exact .inl e
      grind
     ·rw[if_neg Ns,T.tA J f1 d t x.v uG];exact ih
    ·cases h'
def T.has{α:Type}(t:T α):Nat->Bool:=
 T.rec (motive:=fun _=>Nat->Bool) (fun _=>false)
  (fun _ _ _ gl gr n=>Nat.rec (motive:=fun _=>Bool) true (fun p _=>Nat.rec (motive:=fun _=>Bool) (gl (Nat.div p 2)) (fun _ _=>gr (Nat.div p 2)) (Nat.mod p 2)) n) t
theorem T.aH1{α:Type}(l r:T α)(v:α)(n:Nat):T.has (.node l v r) n=if n=0 then true else if n%2=1 then l.has (n/2) else r.has (n/2 - 1):=by
 cases n with
 |zero=>rfl
 |succ p=>
  show Nat.rec (motive:=fun _=>Bool) (l.has (p/2)) (fun _ _=>r.has (p/2)) (Nat.mod p 2)=_;rw[lW,if_neg (show ¬p+1=0 by omega)]
  grind
theorem T.MV{α:Type}(d:α):∀(t:T α) (i:Nat) (x:α),t.has i=true->(t.set i x).get d i=x
 | .nil,_,_,h=>by cases h
 | .node l v r,i,x,h=>by
  rw[T.aH1] at h;rw[T.NO];by_cases h0:i=0
  ·subst h0;rw[if_pos rfl,T.ky,if_pos rfl]
  ·rw[if_neg h0] at h⊢;by_cases h1:i%2=1
   ·rw[if_pos h1] at h⊢;rw[T.ky,if_neg h0,if_pos h1];exact T.MV d l _ x h
   ·rw[if_neg h1] at h⊢;rw[T.ky,if_neg h0,if_neg h1];exact T.MV d r _ x h
def vH{ρ:Type}(fr:Fr)(dst:Option Tmp)(v:xM)(k:Fr->Option ρ):Option ρ:=
 Option.rec (motive:=fun _=>Fr->xM->(Fr->Option ρ)->Option ρ) (fun fr _ k=>k fr)
  (fun d fr v k=>Bool.rec (motive:=fun _=>Option ρ) none (fr.lG d v k) (fr.has d)) dst fr v k
theorem aN5{ρ:Type}{fr:Fr}{dst:Option Tmp}{v:xM}{k:Fr->Option ρ}{res:ρ}(h:vH fr dst v k=some res):∃cK:Fr,k cK=some res/\cK.get J=iQ (fr.get J) dst v:=by
 cases dst with
 |none=>exact⟨fr,h,rfl⟩
 |some d=>
  have h':Bool.rec (motive:=fun _=>Option ρ) none (fr.lG d v k) (fr.has d)=some res:=h;cases hd:fr.has d with
  |false=>simp_all
  |true=>
   rw[hd] at h';have h2:fr.lG d v k=some res:=h';rw[T.I8] at h2;refine⟨fr.set d v,h2,funext fun t=> ?_⟩;rw[Cj];by_cases ht:d=t
   ·subst ht;rw[if_pos rfl];exact T.MV J fr d v hd
   ·rw[if_neg (fun e=>ht (xC e))];grind [T.tA,J]
def Ov{ρ:Type}(E:az)(sq:Cf)(call:eL->C3->AW->bp xM)(ops:HF)(ih:List iy->Fr->AW->List Tr->Option ρ)(i:Nat)(bl:List iy)(fr:Fr)(A:AW)(tr:List Tr):Option ρ:=
 match dM ops i with
 |none=>none
 |some o=>match pB ops (fr.get J) o with
  |none=>none
  |some wd=>
   bs (Nat.ble 2 (gM E o.op))
    (bs (fb (vF E sq A) bl)
     (bs wd
      (match iL E sq A (fr.get J) o.op with
      | .val v A'=>yj v (fun v=>vm A' (fun A'=>vH fr o.dst v (fun fr=>ih (nY (fun e=>not (bit (j8 ops i) e.i)) bl) fr A' (⟨i,o.dst,v⟩::tr))))
      | .call f args=>(match call f args A with
       |some [(v,A')]=>vH fr o.dst v (fun fr=>ih (nY (fun e=>not (bit (j8 ops i) e.i)) bl) fr A' (⟨i,o.dst,v⟩::tr))
       |_=>none)
      | .fail=>none
      | .nd _=>none)
      (vH fr o.dst undef (fun fr=>ih (nY (fun e=>not (bit (j8 ops i) e.i)) bl) fr A (⟨i,o.dst,undef⟩::tr)))) none)
    (bs wd
     (match Ed o.op E sq A (fr.get J) with
     | .val v A'=>yj v (fun v=>vm A' (fun A'=>
      bs (Nat.beq (gM E o.op) 1)
       (match A'.get A.next with
       |some b=>vH fr o.dst v (fun BY=>ih (⟨i,o,fr.get J,v,true,some (A.next,b),none⟩::bl) BY A' (⟨i,o.dst,v⟩::tr))
       |none=>none)
       (vH fr o.dst v (fun BY=>ih (⟨i,o,fr.get J,v,true,none,none⟩::bl) BY A' (⟨i,o.dst,v⟩::tr)))))
     | .fail=>(match A.tape with
      |[]=>none
      |nd::r=>match n9 E sq A (fr.get J) o.op nd with
       |some v=>vH fr o.dst v (fun BY=>ih (⟨i,o,fr.get J,v,true,none,some nd⟩::bl) BY (A.pop r) (⟨i,o.dst,v⟩::tr))
       |none=>none)
     |_=>none)
     (vH fr o.dst undef (fun BY=>ih (⟨i,o,fr.get J,undef,false,none,none⟩::bl) BY A (⟨i,o.dst,undef⟩::tr))))
def FV{ρ:Type}(E:az)(sq:Cf)(call:eL->C3->AW->bp xM)(ops:HF)(fin:List iy->Gt->AW->List Tr->Option ρ)(L:Es):List iy->Fr->AW->List Tr->Option ρ:=
 List.rec (motive:=fun _=>List iy->Fr->AW->List Tr->Option ρ) (fun bl fr A tr=>fin bl (fr.get J) A tr) (fun i _ ih=>Ov E sq call ops ih i) L
theorem No{ρ:Type}{E:az}{sq:Cf}{call:eL->C3->AW->bp xM}{ops:HF}{fin:List iy->Gt->AW->List Tr->Option ρ}{res:ρ}:
 ∀(L:Es) (bl:List iy) (fr:Fr) (A:AW) (tr:List Tr),FV E sq call ops fin L bl fr A tr=some res->z6 E sq call ops fin L bl (fr.get J) A tr=some res
 |[],bl,fr,A,tr,h=>h
 |i::L,bl,fr,A,tr,h=>by
  have h':Ov E sq call ops (FV E sq call ops fin L) i bl fr A tr=some res:=h;show FW E sq call ops (z6 E sq call ops fin L) i bl (fr.get J) A tr=some res;clear h;have put:∀(dst:Option Tmp) (v:xM) (p:List iy) (A':AW) (t:List Tr),vH fr dst v (fun fr=>FV E sq call ops fin L p fr A' t)=some res->z6 E sq call ops fin L p (iQ (fr.get J) dst v) A' t=some res:=fun dst v p A' t hp=>by
   obtain⟨cK,h1,h2⟩:=aN5 hp;rw[<-h2];exact No L p cK A' t h1
  unfold Ov at h';unfold FW;cases ho:dM ops i with
  |none=>grind
  |some o=>
   rw[ho] at h';simp only at h'⊢;cases hw:pB ops (fr.get J) o with
   |none=>grind
   |some wd=>
    rw[hw] at h';simp only at h'⊢;cases hk:Nat.ble 2 (gM E o.op) with
    |true=>
     rw[hk,fK] at h';rw[fK];cases hs:fb (vF E sq A) bl with
     |false=>grind [kz]
     |true=>
      rw[hs,fK] at h';rw[fK];cases wd with
      |false=>grind [kz]
      |true=>
       rw[fK] at h';rw[fK];cases dY:iL E sq A (fr.get J) o.op with
       |fail=>grind
       |nd q=>grind
       |val v A'=>
        grind [Fc,Fe]
       |call f args=>
        grind
    |false=>
     rw[hk,kz] at h';rw[kz];cases wd with
     |false=>grind [kz]
     |true=>
      rw[fK] at h';rw[fK];cases dY:Ed o.op E sq A (fr.get J) with
      |fail=>
       rw[dY] at h'
       grind
      |nd q=>grind
      |call f args=>grind
      |val v A'=>
       rw[dY] at h';simp only [Fc,Fe] at h'⊢;cases hb:Nat.beq (gM E o.op) 1 with
       |true=>
        grind [fK]
       |false=>
        grind [kz]
end
end Go.Ex
