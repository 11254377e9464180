/- A verified evaluator of Go functions. -/
import Derived.Test.YthicpeihkkokmaaGreatDoorX1
import Derived.IntWalk
set_option linter.unusedVariables false
set_option linter.unusedSimpArgs false
set_option maxHeartbeats 4000000
set_option maxRecDepth 100000
namespace Go.Ex
variable{P:Program}{β:af}{n len:Nat}{E:au}{w0 w:World}{A A':AW}{cs l:a0e}{es es':a0k}{t ty tx kt:xN}{x' k k':xM}{e e':MapEntry}{uG:Nat->Option (Nat×Nat)}{ps qs:List (Nat×xM)}{d:TypeDesc}
open Go.RowKit
theorem _root_.Go.a0F{p:Prop}(h:p:=by simp;omega):p:=h
noncomputable section
def uh(x:a0t)(MM lim:Nat):a0r:=
 match x with
 |none=>some MM
 |some (.int _ (.ofNat m))=>bs (Nat.ble m lim) (some m) none
 |some _=>none
def pF(β:af):Option xM->Option xM->Prop
 |none,none=>True
 |some v,some v'=>aj β v v'
 |_,_=>False
section
theorem run_sliceBound(k:xO)(m y:Nat)(h:m<=y)(code:BoundsCode)(w:World):(Instr.sliceBound (.int k (m:Int)) y code).run P w= .ok m w:=by
 have h0:(0:Int)<=(m:Int)/\(m:Int)<=(y:Int):=⟨a0B,a0B⟩;simp[Instr.sliceBound,asIntOf,h]
theorem vU{x x':a0t}{MM lim m:Nat}(h:uh x MM lim=some m)(hx:pF β x x'):(x'=none/\m=MM)\/∃k,x'=some (.int k (m:Int))/\m<=lim:=by
 unfold uh at h;split at h
 ·cases h;cases x' with
  |none=>grind
  |some v=>exact hx.elim
 ·rename_i k q;replace h:=ax h;rcases h with⟨hb,h⟩|⟨_,h⟩
  ·cases h;cases x' with
   |none=>exact hx.elim
   |some v=>cases hx;simp_all
  ·cases h
 ·cases h
def uC(n:Nat)(lo hi:a0t):Option (Nat×Nat):=
 match uh hi n n with
 |none=>none
 |some h=>match uh lo 0 h with
  |none=>none
  |some l=>some (l,h)
theorem sG{c:Nat}{lo hi gy gx:a0t}{l h:Nat}(hb:uC n lo hi=some (l,h))(jB:pF β lo gy)(jq:pF β hi gx)(hc:n<=c)(s:Bool)(w:World):
 (Instr.sliceBounds s n c gy gx none).run P w= .ok (l,h,c) w/\l<=h/\h<=n:=by
 unfold uC at hb;split at hb
 ·cases hb
 rename_i h0 hh;split at hb
 ·cases hb
 rename_i l0 hl;cases hb;have Ie:h<=n:=by rcases vU hh jq with⟨_,rfl⟩|⟨k,_,h⟩<;>omega
 have Mu:l<=h:=by rcases vU hl jB with⟨_,rfl⟩|⟨k,_,h⟩<;>omega
 refine⟨?_,Mu,Ie⟩;rcases vU hh jq with⟨rfl,e2⟩|⟨kh,rfl,_⟩<;>rcases vU hl jB with⟨rfl,e4⟩|⟨kl,rfl,_⟩
 ·simp[Instr.sliceBounds,e2,e4]
 ·rw[<-e2];simp[Instr.sliceBounds,run_sliceBound _ l h Mu]
 ·simp[Instr.sliceBounds,run_sliceBound _ h c a0B,e4]
 ·simp[Instr.sliceBounds,run_sliceBound _ h c a0B,run_sliceBound _ l h Mu]
end
def J5(A:AW)(B:Nat):Option (List xM×Nat):=
 match A.get B with
 |some ⟨.cells cs,es,_,_,_⟩=>some (cs,es)
 |_=>none
def Px(E:au)(A:AW)(t:xN)(x:xM)(lo hi:a0t):a0t:=
 match E.ti.get none t,x with
 |some ⟨.string,_,_,_,_⟩,.string ⟨⟨s⟩⟩=>
  match uC (bA s) lo hi with
  |some (l,h)=>match oK (Nat.sub h l) (p9 l s) with|some r=>some (.string ⟨⟨r⟩⟩)|none=>none
  |none=>none
 |some ⟨.slice kX,_,_,_,_⟩,.iface B (.tuple ⟨[]⟩)=>
  match lo,hi with
  |none,some (.int _ (.ofNat 0))=>match A.get B,E.ti.get none kX with
   |some ⟨.own (.chan (some (c+1))),_,_,_,_⟩,some _=>some (.iface B (.chan (some (c+1))))
   |_,_=>none
  |_,_=>none
 |some ⟨.array n kX,_,_,_,_⟩,.pointer (some ⟨B,o,none⟩)=>
  match uC n lo hi,E.ti.get none kX,J5 A B with
  |some (l,h),some r,some (cs,es)=>
   bs (Nat.beq es r.size&&Nat.ble (Nat.add o (Nat.mul n r.size)) (bA cs)) (some (.slice (some ⟨B,bs (Nat.beq l n) o (Nat.add o (Nat.mul l r.size)),none⟩) (Nat.sub h l) (Nat.sub n l))) none
  |_,_,_=>none
 |_,_=>none
def KF(E:au)(A:AW)(t:xN)(x:xM)(lo hi mx:a0t):a0t:=
 match mx with|none=>Px E A t x lo hi|some _=>none
section
variable(ok:E.Ok P)(inv:Inv w0 E.G β A w)
include inv ok
omit ok in
theorem Wq{B:Nat}{es:Nat}(h:J5 A B=some (cs,es)){l:Loc}(hl:β B=some l):l.es=es/\l.d+cs.length<=l.sz:=by
 unfold J5 at h;split at h
 ·rename_i hg;cases h;obtain⟨aB,e,fz,_,_,h3,_,_,_,h7⟩:=inv.cont B _ l hg hl
  grind
 ·cases h
omit inv ok in
theorem VP(s:a0h)(l h:Nat):(⟨⟨s⟩⟩:ByteArray).extract l h=⟨⟨(s.drop l).take (h - l)⟩⟩:=by
 apply ByteArray.ext
 simp_all
theorem aL8{x v:xM}{lo hi mx gy gx Js:a0t}(h:KF E A t x lo hi mx=some v)(hx:aj β x x')(jB:pF β lo gy)(jq:pF β hi gx)(mr:pF β mx Js):
 ∃v',(Instr.sliceAt t x' gy gx Js).run P w= .ok v' w/\aj β v v':=by
 unfold KF at h;split at h;rotate_left
 ·cases h
 obtain rfl:Js=none:=by cases Js with|none=>rfl|some _=>exact mr.elim
 unfold Px at h;split at h
 ·rename_i _ _ _ _ s hr;have hu:=(ok.ti t _ hr).1;split at h
  ·rename_i l hh hb;split at h
   ·rename_i r bu;cases h;cases hx;rw[du] at hb;obtain⟨aM,hlh,hhm⟩:=sG (P:=P) (c:=s.length) hb jB jq (xk _) false w;rw[Dq] at bu;obtain⟨rfl,_⟩:=Dn _ _ _ bu;refine⟨_,?_,.string _⟩;have aS:(⟨⟨s⟩⟩:ByteArray).size=s.length:=rfl;simp[Instr.sliceAt,run_underlying hu,Instr.slice,aS,aM,VP]
   ·cases h
  ·cases h
 ·rename_i kX _ _ _ _ B hr;have hu:=(ok.ti t _ hr).1;split at h
  ·rename_i kh;split at h
   ·rename_i c es ex ro ty r hg bu;cases h;cases hx with
    |raw _ n cap l hl hn ho=>
     obtain rfl:gy=none:=by cases gy with|none=>rfl|some _=>exact jB.elim
     obtain⟨x0,rfl,CA⟩:∃x0,gx=some x0/\aj β (.int kh (.ofNat 0)) x0:=by cases gx with|none=>exact jq.elim|some x0=>exact⟨x0,rfl,jq⟩
     cases CA;have aM:(Instr.sliceBounds true n cap none (some (.int kh (.ofNat 0))) none).run P w= .ok (0,0,cap) w:=by
      have:=run_sliceBound (P:=P) kh 0 cap (xL _)
      simp_all [Instr.sliceBounds]
     obtain⟨rows,hd,gT⟩:=inv.own B _ hg;have kK:β.d c=some (.sl rows):=by
      obtain⟨y,hy,h1⟩:=xr.1 (show(β.d c).bind (fun x=>if x.cell then some x else none)=_ from hd);split at h1<;>cases h1
      exact hy
     have iS:rows=[]:=by
      rcases gT with⟨e,_⟩|⟨l2,u5,_,e,_⟩
      ·exact e
      ·rw[ho] at e;injection e with e;injection e with _ e _;exact xE.1 e.symm
     subst iS;refine⟨.slice (some ⟨l.b,l.d,none⟩) 0 cap,?_,.own B c [] (some ⟨l.b,l.d,none⟩) cap ho (.inr ⟨l,hl,rfl⟩) kK⟩;simp only [Int.ofNat_eq_natCast,Int.natCast_zero] at aM⊢;simp[Instr.sliceAt,run_underlying hu,Instr.slice,aM,dL ok bu,Addr.add]
   ·cases h
  ·cases h
 ·rename_i n kX _ _ _ _ B o hr;have hu:=(ok.ti t _ hr).1;split at h
  ·rename_i l hh r cs es hb bu hw;replace h:=ax h;rcases h with⟨hc,h⟩|⟨_,h⟩
   ·rw[xf] at hc;have uX:=xb hc.1;subst uX;have aK:=xh hc.2;rw[du] at aK;have wM:o+n*r.size<=cs.length:=aK;cases h;cases hx with
    |ptr _ _ lc dt=>
     obtain⟨aM,hlh,hhm⟩:=sG (P:=P) (c:=n) hb jB jq (xk _) false w;obtain⟨SN,aS⟩:=Wq inv hw dt;by_cases Aj:l=n
     ·subst Aj;have bM:Nat.beq l l=true:=by rw[oQ];simp
      rw[bM,eQ];refine⟨.slice (some ⟨lc.b,lc.d+o,none⟩) (hh - l) (l - l),?_,.slice B o (hh - l) (l - l) (l - l) lc dt a0B (xk _) ?_⟩
      ·simp[Instr.sliceAt,run_underlying hu,Instr.sureAddr,aM,dL ok bu]
      ·rw[Nat.sub_self,Nat.zero_mul];omega
     ·have bM:Nat.beq l n=false:=by rw[oQ];simpa using Aj
      rw[bM,ku];refine⟨.slice (some ⟨lc.b,lc.d+(o+l*r.size),none⟩) (hh - l) (n - l),?_,.slice B (o+l*r.size) (hh - l) (n - l) (n - l) lc dt a0B (xk _) ?_⟩
      ·simp[Instr.sliceAt,run_underlying hu,Instr.sureAddr,aM,dL ok bu,Addr.add_lit,Nat.add_assoc,Ne.symm Aj]
      ·rw[SN];have:l*r.size+(n - l)*r.size=n*r.size:=by rw[<-Nat.add_mul];congr 1;omega
       omega
   ·cases h
  ·cases h
 ·cases h
end
def u7(a:a0h):a0h->Bool:=
 List.rec (motive:=fun _=>a0h->Bool) (fun b=>List.rec (motive:=fun _=>Bool) true (fun _ _ _=>false) b)
  (fun x _ ih b=>List.rec (motive:=fun _=>Bool) false (fun y t _=>bs (Nat.beq x.toNat y.toNat) (ih t) false) b) a
theorem yS(a:a0h):∀b,u7 a b=decide (a=b):=by
 induction a with
 |nil=>intro b;cases b<;>rfl
 |cons x a ih=>
  intro b;cases b with
  |nil=>rfl
  |cons y b=>
   show bs (Nat.beq x.toNat y.toNat) (u7 a b) false=_;rw[oQ];by_cases h:x=y
   ·subst h;rw[decide_eq_true rfl,eQ,ih];simp
   ·have: ¬x.toNat=y.toNat:=fun e=>h (UInt8.toNat_inj.1 e)
    grind [decide_eq_false,ku]
def iw(l:a0c)(t:Nat):Option (List xO):=
 List.rec (motive:=fun _=>Option (List xO)) none (fun p _ ih=>bs (Nat.beq p.1 t) (some p.2) ih) l
def pD(a b:a0e):Option Bool:=match a,b with|[],[]=>some true|_,_=>none
def n7(k:xO)(ih:List xM->List xM->Option Bool)(a b:a0e):Option Bool:=
 match a,b with
 | .int j m::a,.int j' n::b=>bs (dA j k&&dA j' k) (match ih a b with|some r=>some (bs (mo m n) r false)|none=>none) none
 |_,_=>none
def eZ(ks:a0u):List xM->List xM->Option Bool:=
 List.rec (motive:=fun _=>List xM->List xM->Option Bool) pD (fun k _ ih=>n7 k ih) ks
structure au.Seq (E:au) (P:Program) (sq:a0c):Prop where
 eq:∀t ks a b r,iw sq t=some ks->eZ ks a b=some r->∀w,(Op.equal t (.agg ⟨a⟩) (.agg ⟨b⟩)).run P w= .ok r w
 guard:∀t ks,iw sq t=some ks->P.eqGuardType P.depth t=false
 und:∀t ks,iw sq t=some ks->∃d,P.underlying t=some d
 key:∀t ks a,iw sq t=some ks->eZ ks a a=some true->∀em w,(Instr.checkKey em 10000 t (.agg ⟨a⟩)).run P w= .ok () w
theorem JI:∀(ks:a0u) (a b a' b':a0e) (r:Bool),eZ ks a b=some r->aX β a a'->aX β b b'->a'=a/\b'=b
 |[],a,b,a',b',r,h,ha,hb=>by
  have h':pD a b=some r:=h;clear h;unfold pD at h';split at h'
  ·exact⟨ha.qD,hb.qD⟩
  ·cases h'
 |k::ks,a,b,a',b',r,h,ha,hb=>by
  have h':n7 k (eZ ks) a b=some r:=h;clear h;unfold n7 at h';split at h'
  ·rename_i j m a j' n b;replace h':=ax h';rcases h' with⟨_,h'⟩|⟨_,h'⟩
   ·split at h'
    ·rename_i r2 bu;obtain⟨v,l,rfl,hv,hl⟩:=ha.pc;obtain⟨v2,l2,rfl,dK,aW⟩:=hb.pc;obtain⟨e1,e2⟩:=JI ks a b l l2 r2 bu hl aW;cases hv;cases dK
     grind
    ·cases h'
   ·cases h'
  ·cases h'
def qw(E:au)(sq:a0c)(t:xN)(x y:xM):Option Bool:=
 match x,y with
 | .pointer none,.pointer none=>match E.ti.get none t with|some ⟨.pointer _,_,_,_,_⟩=>some true|_=>none
 | .pointer (some _),.pointer none=>match E.ti.get none t with|some ⟨.pointer _,_,_,_,_⟩=>some false|_=>none
 | .pointer (some ⟨B,o,none⟩),.pointer (some ⟨B',o',none⟩)=>
  match E.ti.get none t with
  |some ⟨.pointer e,_,_,_,_⟩=>match E.ti.get none e with
   |some r=>bs (Nat.beq r.size 0) none (bs (Nat.beq B B') (some (Nat.beq o o')) none)
   |none=>none
  |_=>none
 | .slice (some _) _ _,.slice none _ _=>match E.ti.get none t with|some ⟨.slice _,_,_,_,_⟩=>some false|_=>none
 | .agg ⟨a⟩,.agg ⟨b⟩=>match iw sq t with|some ks=>eZ ks a b|none=>none
 |_,_=>none
theorem pX(t:xN)(x y:xM):Op.equal t x y=Op.equalIn (9999+1) t x y:=rfl
section
variable(ok:E.Ok P){sq:a0c}(aR:E.Seq P sq)
include ok aR
theorem ag0{x y y':xM}{r:Bool}(h:qw E sq t x y=some r)(hx:aj β x x')(hy:aj β y y')(w:World):
 (Op.equal t x' y').run P w= .ok r w/\(∀op p q,(eqGuard op t p q x' y').run P w= .ok () w)/\(∀op,op= .eql\/op= .neq->binOp op t x' y'=match op with| .eql=>(do pure (.bool (<-Op.equal t x' y')))|_=>(do pure (.bool (!(<-Op.equal t x' y'))))):=by
 unfold qw at h;split at h
 ·split at h<;>cases h
  rename_i hr;have hu:=(ok.ti t _ hr).1;cases hx<;>cases hy<;>
  (refine⟨?_,fun op p q=> ?_,fun op ho=>by rcases ho with rfl|rfl<;>rfl⟩
   ·rw[pX,Op.equalIn];simp[run_underlying hu]
   ·cases op<;>simp[eqGuard])
 ·split at h<;>cases h
  rename_i hr;have hu:=(ok.ti t _ hr).1;cases hx<;>cases hy<;>
  (refine⟨?_,fun op p q=> ?_,fun op ho=>by rcases ho with rfl|rfl<;>rfl⟩
   ·rw[pX,Op.equalIn];simp[run_underlying hu]
   ·cases op<;>simp[eqGuard])
 ·rename_i B o B' o';split at h
  ·rename_i e _ _ _ _ hr;split at h
   ·rename_i re dU;replace h:=ax h;rcases h with⟨_,h⟩|⟨hz,h⟩
    ·cases h
    replace h:=ax h;rcases h with⟨hB,h⟩|⟨hz,h⟩
    ·have vE:=xb hB;subst vE;cases h;rw[oQ] at hz;have tV: ¬re.size=0:=by simpa using hz
     cases hx with
     |ptr _ _ l hl=>
      cases hy with
      |ptr _ _ l' fj=>
       rw[hl] at fj;cases fj;have hu:=(ok.ti t _ hr).1;refine⟨?_,fun op p q=> ?_,fun op ho=>by rcases ho with rfl|rfl<;>rfl⟩
       ·rw[pX,Op.equalIn];simp[run_underlying hu,dL ok dU,tV,sameAddr,oQ,Bool.beq_eq_decide_eq]
       ·cases op<;>simp[eqGuard]
    ·cases h
   ·cases h
  ·cases h
 ·split at h<;>cases h
  rename_i hr;have hu:=(ok.ti t _ hr).1;cases hx<;>cases hy<;>
  (refine⟨?_,fun op p q=> ?_,fun op ho=>by rcases ho with rfl|rfl<;>rfl⟩
   ·rw[pX,Op.equalIn];simp[run_underlying hu]
   ·cases op<;>simp[eqGuard])
 ·rename_i a b;split at h
  ·rename_i ks dW;cases hx with
   |agg _ p' hp h1=>
    cases hy with
    |agg _ q' hq h2=>
     obtain⟨rfl,rfl⟩:=JI ks a b p' q' r h ⟨hp,h1⟩ ⟨hq,h2⟩;refine⟨aR.eq t ks _ _ r dW h w,fun op p q=> ?_,fun op ho=>by rcases ho with rfl|rfl<;>rfl⟩;have hg:=aR.guard t ks dW;cases op<;>simp[eqGuard,program,Sem.run,hg]
  ·cases h
 ·cases h
end
def ft(E:au)(sq:a0c)(op:BinOp)(t:xN)(x y:xM):a0t:=
 match x,y with
 | .int k a,.int k' b=>B6 op k a k' b
 | .string ⟨⟨a⟩⟩,.string ⟨⟨b⟩⟩=>match op with
  | .eql=>some (.bool (u7 a b))
  | .neq=>some (.bool (not (u7 a b)))
  | .add=>bs (Nat.ble (Nat.add (bA a) (bA b)) 9223372036854775807) (some (.string ⟨⟨iU a b⟩⟩)) none
  |_=>none
 |x,y=>match op with
  | .eql=>(qw E sq t x y).map .bool
  | .neq=>(qw E sq t x y).map fun b=> .bool (not b)
  |_=>none
def ab6(op:BinOp):xO->Int->xO->Int->a0t:=
 match op with
 | .add=>fun k a k' b=>bs (dA k k') (some (.int k (gG k (Int.add a b)))) none
 | .sub=>fun k a k' b=>bs (dA k k') (some (.int k (gG k (Int.sub a b)))) none
 | .eql=>fun k a k' b=>bs (dA k k') (some (.bool (mo a b))) none
 | .neq=>fun k a k' b=>bs (dA k k') (some (.bool (not (mo a b)))) none
 | .lss=>fun k a k' b=>bs (dA k k') (some (.bool (iI a b))) none
 | .leq=>fun k a k' b=>bs (dA k k') (some (.bool (not (iI b a)))) none
 | .gtr=>fun k a k' b=>bs (dA k k') (some (.bool (iI b a))) none
 | .geq=>fun k a k' b=>bs (dA k k') (some (.bool (not (iI a b)))) none
 |op=>B6 op
theorem aP4(op:BinOp)(k:xO)(a:Int)(k':xO)(b:Int):ab6 op k a k' b=B6 op k a k' b:=by cases op<;>rfl
abbrev au0:=xO->Int->au->a0c->BinOp->xN->a0t
def bA5(y:xM):au0:=
 D7 (ρ:=au0) (fun _ v k a E sq op t=>ft E sq op t (.int k a) v) (fun k' b _ k a _ _ op _=>ab6 op k a k' b) (fun _ v k a E sq op t=>ft E sq op t (.int k a) v) (fun _ v k a E sq op t=>ft E sq op t (.int k a) v)
  (fun _ _ _ v k a E sq op t=>ft E sq op t (.int k a) v) (fun _ v k a E sq op t=>ft E sq op t (.int k a) v) (fun v k a E sq op t=>ft E sq op t (.int k a) v) y y
abbrev bA8:=au->a0c->BinOp->xN->xM->a0t
def TO(E:au)(sq:a0c)(op:BinOp)(t:xN)(x y:xM):a0t:=
 D7 (ρ:=bA8) (fun _ v E sq op t y=>ft E sq op t v y) (fun k a _ E sq op t y=>bA5 y k a E sq op t) (fun _ v E sq op t y=>ft E sq op t v y) (fun _ v E sq op t y=>ft E sq op t v y)
  (fun _ _ _ v E sq op t y=>ft E sq op t v y) (fun _ v E sq op t y=>ft E sq op t v y) (fun v E sq op t y=>ft E sq op t v y) x x E sq op t y
theorem bc9(E:au)(sq:a0c)(op:BinOp)(t:xN)(x y:xM):TO E sq op t x y=ft E sq op t x y:=by
 cases x with
 |int k a=>cases y with
  |int k' b=>exact aP4 op k a k' b
  |_=>rfl
 |_=>rfl
theorem aI5(a b:a0h):(⟨⟨a⟩⟩:ByteArray)++(⟨⟨b⟩⟩:ByteArray)=⟨⟨a++b⟩⟩:=by
 apply ByteArray.ext
 simp_all
section
variable(ok:E.Ok P){sq:a0c}(aR:E.Seq P sq)
include ok aR
theorem pZ{op:BinOp}{x y y' v:xM}(h:ft E sq op t x y=some v)(hx:aj β x x')(hy:aj β y y')(p q:Operand)(w:World):
 ∃v',(do eqGuard op t p q x' y';binOp op t x' y':Sem xM).run P w= .ok v' w/\aj β v v':=by
 unfold ft at h;split at h
 ·rename_i k a k' b;cases hx;cases hy;obtain⟨h1,h2⟩:=aZ9 h t P w;refine⟨v,?_,h2 β⟩;have hg:(eqGuard op t p q (.int k a) (.int k' b)).run P w= .ok () w:=by cases op<;>simp[eqGuard]
  simp[hg,h1]
 ·rename_i a b;cases hx;cases hy;have hg:(eqGuard op t p q (.string ⟨⟨a⟩⟩) (.string ⟨⟨b⟩⟩)).run P w= .ok () w:=by cases op<;>simp[eqGuard]
  split at h
  ·cases h;refine⟨_,?_,.bool _⟩;rw[yS];simp[hg,binOp,Op.stringOp,ByteArray.toList_eq,Bool.beq_eq_decide_eq]
  ·cases h;refine⟨_,?_,.bool _⟩;rw[yS];simp[hg,binOp,Op.stringOp,ByteArray.toList_eq,Bool.beq_eq_decide_eq]
  ·replace h:=ax h;rcases h with⟨hb,h⟩|⟨_,h⟩
   ·cases h;have aK:=xh hb;rw[du,du] at aK;have wM:a.length+b.length<=9223372036854775807:=aK;refine⟨_,?_,.string _⟩;rw[mF];have aS:(⟨⟨a⟩⟩:ByteArray).size=a.length:=rfl;have zN:(⟨⟨b⟩⟩:ByteArray).size=b.length:=rfl;have hm:IntKind.i64.max=9223372036854775807:=rfl;have jA: ¬(9223372036854775807:Int)<(a.length:Int)+(b.length:Int):=a0B
    simp[hg,binOp,Op.stringOp,aS,zN,hm,jA,aI5]
   ·cases h
  ·cases h
 ·rename_i h1 h2;split at h
  ·obtain⟨r,hr,rfl⟩:=xp.1 h;obtain⟨e1,e2,e3⟩:=ag0 ok aR hr hx hy w;refine⟨.bool r,?_,.bool _⟩
   simp_all
  ·obtain⟨r,hr,rfl⟩:=xp.1 h;obtain⟨e1,e2,e3⟩:=ag0 ok aR hr hx hy w;refine⟨.bool (!r),?_,.bool _⟩
   simp_all
  ·cases h
end
def BJ(E:au)(s d:xN)(x:xM):a0t:=
 match E.ti.get none s,E.ti.get none d,x with
 |some _,some ⟨.int k,_,_,_,_⟩,.int _ n=>some (.int k (gG k n))
 |some _,some ⟨.string,_,_,_,_⟩,.string b=>some (.string b)
 |_,_,_=>none
def Sx(E:au)(A:AW)(t:xN)(x:xM):a0t:=
 match E.ti.get none t,x with
 |some ⟨.string,_,_,_,_⟩,.string ⟨⟨l⟩⟩=>some (.int .i64 (.ofNat (bA l)))
 |some ⟨.slice _,_,_,_,_⟩,.slice _ n _=>some (.int .i64 (.ofNat n))
 |_,_=>none
section
variable(ok:E.Ok P)(inv:Inv w0 E.G β A w)
include ok
theorem P8{s d:xN}{x v:xM}(h:BJ E s d x=some v)(hx:aj β x x')(w:World):∃v',(convert s d x').run P w= .ok v' w/\aj β v v':=by
 unfold BJ at h;split at h
 ·rename_i hs hd;cases h;cases hx;have h1:=(ok.ti s _ hs).1;have h2:=(ok.ti d _ hd).1;refine⟨_,?_,.int _ _⟩;rw[lW];simp[convert,run_underlying h1,run_underlying h2,Conv.intToInt]
 ·rename_i r _ _ _ _ _ hs hd;cases h;cases hx;have h1:=(ok.ti s _ hs).1;have h2:=(ok.ti d _ hd).1;refine⟨_,?_,.string _⟩;cases hr:r.desc<;>rw[hr] at h1<;>simp[convert,run_underlying h1,run_underlying h2]
 ·cases h
theorem KR{x v:xM}(h:Sx E A t x=some v)(hx:aj β x x'):∃v',(Builtin.len_ #[t] ty #[x']).run P w= .ok v' w/\aj β v v':=by
 unfold Sx at h;split at h
 ·rename_i hr;cases h;cases hx;have hu:=(ok.ti t _ hr).1;refine⟨_,?_,.int _ _⟩;rw[du];simp[Builtin.len_,run_underlying hu,goInt];rfl
 ·rename_i hr;cases h;have hu:=(ok.ti t _ hr).1;cases hx<;>exact⟨_,by simp[Builtin.len_,run_underlying hu,goInt],.int _ _⟩
 ·cases h
end
def kQ(l:a0e):Nat->List xM->List xM:=
 List.rec (motive:=fun _=>Nat->List xM->List xM) (fun _ cs=>cs) (fun v _ ih o cs=>ih (Nat.add o 1) (Sv cs o v)) l
theorem aA8(o:Nat)(cs:a0e):kQ [] o cs=cs:=rfl
theorem Ju(v:xM)(l:a0e)(o:Nat)(cs:a0e):kQ (v::l) o cs=kQ l (o+1) (cs.set o v):=by
 show kQ l (o+1) (Sv cs o v)=_;rw[aY5]
theorem NX(l:a0e):∀(o:Nat) (cs:a0e),(kQ l o cs).length=cs.length:=by
 induction l with
 |nil=>intros;rfl
 |cons v l ih=>grind [Ju]
theorem aA9(l:a0e):∀(o:Nat) (cs:a0e) (i:Nat),o+l.length<=cs.length->
 (kQ l o cs)[i]? =if o<=i/\i<o+l.length then l[i - o]? else cs[i]? :=by
 induction l with
 |nil=>intro o cs i _;rw[aA8,if_neg (fun e=>a0D)]
 |cons v l ih=>
  intro o cs i h;rw[xi] at h;rw[Ju,ih (o+1) _ i a0F,xi]
  grind
theorem aA7{l':a0e}(h:aX β l l'):∀(o:Nat) {cs bC:a0e},aX β cs bC->aX β (kQ l o cs) (kQ l' o bC):=by
 induction l generalizing l' with
 |nil=>intro o cs bC hc;rw[h.qD];exact hc
 |cons v l ih=>
  intro o cs bC hc;obtain⟨v',r,rfl,hv,hr⟩:=h.pc
  grind [Ju,hc.set]
def A6(v:xM):Option (List xM):=
 match v with
 | .agg ⟨l⟩=>some l
 | .chan (some (_+1))=>some [v]
 | .chan _=>none
 | .tuple _=>none
 |v=>some [v]
def one(v:xM):Bool:=
 match v with
 | .agg _=>false
 | .chan (some (_+1))=>true
 | .chan _=>false
 | .tuple _=>false
 |_=>true
theorem Gv{z:a0n}{d:D}{v:xM}(h:Rd z d v)(hc:d.cell=true):v.cells=⟨[v]⟩/\v.oneCell'=true:=by
 cases h<;>first|exact⟨rfl,rfl⟩|cases hc
theorem N6{x:xM}(h:A6 x=some l)(hx:aj β x x'):∃l',x'.cells=⟨l'⟩/\aX β l l':=by
 unfold A6 at h;split at h
 ·cases h;cases hx with
  |agg _ p' hp h1=>exact⟨p',rfl,hp,h1⟩
 ·cases h;refine⟨[x'],?_,aX.cons hx (aX.nil β)⟩;cases hx with
  |sym c d _ h2 hc hr=>grind [Gv]
 ·cases h
 ·cases h
 ·cases h;rename_i h1 h2 h3 h4;refine⟨[x'],?_,aX.cons hx (aX.nil β)⟩;cases hx<;>first|rfl|exact absurd rfl (h1 _)|exact absurd rfl (h2 _)|exact absurd rfl (h3 _)|exact absurd rfl (h4 _)
theorem Yn{x:xM}(h:one x=true)(hx:aj β x x'):x'.oneCell'=true:=by
 cases hx with
 |sym c d _ h2 hc hr=>exact(Gv hr hc).2
 |_=>first|rfl|cases h
theorem Kz{l':a0e}(h:fq one l=true)(hl:aX β l l'):∀v∈l',v.oneCell'=true:=by
 intro v hv;obtain⟨i,hi,rfl⟩:=List.getElem_of_mem hv;have fW:i<l.length:=by rw[hl.1];exact hi
 exact Yn (pn one l h l[i] (List.getElem_mem fW)) (hl.2 i l[i] l'[i] (by simp[fW]) (by simp[hi]))
section
variable(ok:E.Ok P)(inv:Inv w0 E.G β A w)
def hY(w0:World)(G:GP)(β:af)(A:AW)(r:Result xM)(v:xM)(A':AW):Prop:=
 ∃β' v' w',r= .ok v' w'/\aj β' v v'/\Inv w0 G β' A' w'/\β.grow β' A.next
include inv in
theorem WB(cs:a0e)(bC:a0e)(e:xN)(es:Nat)(ex:Bool)(hc:∀β',β.le β'->aX β' cs bC):
 Inv w0 E.G (β.put A.next ⟨w.heap.size,0,es,bC.length⟩) (A.add ⟨.cells cs,es,ex,false,e⟩) (w.alloc (.cells ⟨bC⟩ e))/\β.grow (β.put A.next ⟨w.heap.size,0,es,bC.length⟩) A.next:=by
 have aK:β.le (β.put A.next ⟨w.heap.size,0,es,bC.length⟩):=inv.gC (af.vT β A.next _);have h:=hc _ aK;refine inv.new _ _ _ rfl ⟨⟨bC⟩,e,(0,0),rfl,rfl,by simp[h.1],fun i v hv=> ?_,fun _=>rfl,fun _=>by simp[h.1],rfl,fun _=>rfl⟩
 grind [h.get]
theorem ju(β:af)(n:Nat)(l:Loc):(β.put n l) n=some l:=by rw[af.rV,if_pos rfl]
def uN(β:af)(w:World)(N:Nat)(r:Result xM)(v:xM)(cs:a0e)(es:Nat)(e:xN):Prop:=
 ∃bC v',r= .ok v' (w.alloc (.cells ⟨bC⟩ e))/\aX β cs bC/\∀β':af,β' N=some ⟨w.heap.size,0,es,bC.length⟩->aj β' v v'
include inv in
theorem uN.ML{r:Result xM}{v:xM}{es:Nat}{e:xN}(h:uN β w A.next r v cs es e):hY w0 E.G β A r v (A.add ⟨.cells cs,es,true,false,e⟩):=by
 obtain⟨bC,v',h1,h2,h3⟩:=h;obtain⟨g1,g2⟩:=WB inv cs bC e es true (fun β' hb=>h2.mono hb);exact⟨_,v',_,h1,h3 _ (ju _ _ _),g1,g2⟩
def y9(E:au)(A:AW)(t:xN):a0q:=
 match E.ti.get none t with
 |some r=>bs r.rb (some (.pointer (some ⟨A.next,0,none⟩),A.add ⟨.cells (eY pA r.zero),1,true,false,t⟩)) none
 |none=>none
include ok in
theorem XP{v:xM}(h:y9 E A t=some (v,A'))(β:af)(w:World):∃cs es e,A'=A.add ⟨.cells cs,es,true,false,e⟩/\uN β w A.next ((Instr.alloc t true (.tuple #[])).run P w) v cs es e:=by
 unfold y9 at h;split at h
 ·rename_i r hr;replace h:=ax h;rcases h with⟨hz,h⟩|⟨_,h⟩
  ·cases h;obtain⟨_,i,hi,_,_,eP⟩:=ok.ti t r hr;obtain⟨z,lP,Nf⟩:=eP hz;refine⟨_,_,_,rfl,r.zero,.pointer (some ⟨w.heap.size,0+0,none⟩),?_,AF β _,fun β' hN=> .ptr A.next 0 _ hN⟩;simp[Instr.alloc,zeroValue,typeInfo,hi,lP,newVar,newRow,Nf]
  ·cases h
 ·cases h
include ok inv in
theorem aT1{v:xM}(h:y9 E A t=some (v,A')):hY w0 E.G β A ((Instr.alloc t true (.tuple #[])).run P w) v A':=by
 obtain⟨cs,es,e,rfl,hf⟩:=XP ok h β w;exact uN.ML inv hf
def zT(A:AW)(t:xN)(x:xM):a0q:=
 match A6 x with
 |some l=>some (.pointer (some ⟨A.next,0,none⟩),A.add ⟨.cells l,1,true,false,t⟩)
 |none=>none
theorem ZV{x v:xM}(h:zT A t x=some (v,A'))(hx:aj β x x')(w:World):∃cs es e,A'=A.add ⟨.cells cs,es,true,false,e⟩/\uN β w A.next ((Instr.box t x').run P w) v cs es e:=by
 unfold zT at h;split at h
 ·rename_i l hl;cases h;obtain⟨l',hc,hr⟩:=N6 hl hx;refine⟨_,_,_,rfl,l',.pointer (some ⟨w.heap.size,0+0,none⟩),?_,hr,fun β' hN=> .ptr A.next 0 _ hN⟩;simp[Instr.box,newVar,newRow,hc]
 ·cases h
include inv in
theorem bp7{x v:xM}(h:zT A t x=some (v,A'))(hx:aj β x x'):hY w0 E.G β A ((Instr.box t x').run P w) v A':=by
 obtain⟨cs,es,e,rfl,hf⟩:=ZV (P:=P) h hx w;exact uN.ML inv hf
def BE(uG:Nat->Option (Nat×Nat))(ps:List (Nat×xM)):List xM->Option (List xM):=
 List.rec (motive:=fun _=>List xM->Option (List xM)) (fun cs=>some cs)
  (fun p _ ih cs=>match uG p.1,A6 p.2 with
   |some (off,size),some l=>bs (Nat.beq (bA l) size&&Nat.ble (Nat.add off (bA l)) (bA cs)) (ih (kQ l off cs)) none
   |_,_=>none) ps
def E'(β:af):List (Nat×xM)->List (Nat×xM)->Prop
 |[],[]=>True
 |p::ps,q::qs=>p.1=q.1/\aj β p.2 q.2/\E' β ps qs
 |_,_=>False
theorem VN(off:Nat):∀(l:a0e) (k:Nat) (cs:a0e),(l.zipIdx k).foldl (fun(cs:a0x) (p:xM×Nat)=>cs.setIfInBounds (off+p.2) p.1) ⟨cs⟩=⟨kQ l (off+k) cs⟩
 |[],_,_=>rfl
 |v::l,k,cs=>by
  rw[List.zipIdx_cons,List.foldl_cons,Ju];have:(⟨cs⟩:a0x).setIfInBounds (off+k) v=⟨cs.set (off+k) v⟩:=by
   apply Array.ext';simp
  simp only [this];rw[VN off l (k+1)];rfl
theorem Kn{place':Nat->Option (Nat×Nat)}(hp:∀i p,uG i=some p->place' i=some p):∀(ps qs:List (Nat×xM)) (cs bC r:a0e),BE uG ps cs=some r->E' β ps qs->aX β cs bC->
 ∃r',Instr.fill place' ⟨bC⟩ qs=some ⟨r'⟩/\aX β r r'
 |[],qs,cs,bC,r,h,hq,hc=>by
  cases qs with
  |nil=>cases h;exact⟨bC,rfl,hc⟩
  |cons _ _=>exact hq.elim
 |p::ps,qs,cs,bC,r,h,hq,hc=>by
  cases qs with
  |nil=>exact hq.elim
  |cons q qs=>
   obtain⟨i,x⟩:=p;obtain⟨i',x'⟩:=q;obtain⟨hi,hx,oL⟩:=hq;have gx:i=i':=hi;subst gx;have h':(match uG i,A6 x with
    |some (off,size),some l=>bs (Nat.beq (bA l) size&&Nat.ble (Nat.add off (bA l)) (bA cs)) (BE uG ps (kQ l off cs)) none
    |_,_=>none)=some r:=h
   clear h;split at h'
   ·rename_i off size l iZ Ul;replace h':=ax h';rcases h' with⟨hb,h'⟩|⟨_,h'⟩
    ·rw[xf,du,du] at hb;have aS:l.length=size:=xb hb.1;have aK:off+l.length<=cs.length:=xh hb.2;obtain⟨l',fj,jN⟩:=N6 Ul hx;obtain⟨r',cz,Af⟩:=Kn hp ps qs (kQ l off cs) (kQ l' off bC) r h' oL (aA7 jN off hc);refine⟨r',?_,Af⟩;have ac6:=VN off l' 0 bC;rw[Nat.add_zero] at ac6;have bN5:(⟨l'⟩:a0x).zipIdx.foldl (fun(cs:a0x) (p:xM×Nat)=>cs.setIfInBounds (off+p.2) p.1) ⟨bC⟩=⟨kQ l' off bC⟩:=by
      rw[<-ac6,<-Array.foldl_toList];simp
     have gg:=jN.1;have js:=hc.1;unfold Instr.fill
     grind
    ·cases h'
   ·cases h'
def KJ(E:au)(fs:List Field)(i:Nat):Option (Nat×Nat):=
 match dP fs i with
 |some fd=>match E.ti.get none fd.type with|some r=>some (fd.offset,r.size)|none=>none
 |none=>none
def Ru(E:au)(fd:Field):Bool:=match E.ti.get none fd.type with|some _=>true|none=>false
def K9(E:au)(t:xN)(ps:List (Nat×xM)):a0t:=
 match E.ti.get none t with
 |some ⟨.struct ⟨fs⟩,_,_,z,true⟩=>bs (fq (Ru E) fs) (match BE (KJ E fs) ps (eY pA z) with|some r=>some (.agg ⟨r⟩)|none=>none) none
 |some ⟨.array _ e,_,_,z,true⟩=>match E.ti.get none e with
  |some re=>match BE (fun i=>some (Nat.mul i re.size,re.size)) ps (eY pA z) with|some r=>some (.agg ⟨r⟩)|none=>none
  |none=>none
 |_=>none
include ok in
theorem Ww:∀(fs:List Field),(∀fd∈fs,Ru E fd=true)->∃pl,fs.mapM (fun f=>(P.info? f.type).map fun i=>(f.offset,i.size))=some pl/\∀i p,KJ E fs i=some p->pl[i]? =some p
 |[],_=>⟨[],rfl,fun i p h=>by grind [KJ,fK]⟩
 |fd::fs,hk=>by
  obtain⟨pl,h1,h2⟩:=Ww fs (fun x hx=>hk x (xo _ hx));have fk:=hk fd xn;unfold Ru at fk;split at fk
  ·rename_i r hr;obtain⟨_,i,hi,hs,_⟩:=ok.ti fd.type r hr;refine⟨(fd.offset,i.size)::pl,by simp_all,fun j p hj=> ?_⟩
   grind [KJ,fK,List.getElem?_cons_zero,List.getElem?_cons_succ]
  ·cases fk
include ok in
theorem Pn{v:xM}(h:K9 E t ps=some v)(hq:E' β ps qs)(w:World):∃v',(Instr.build t ⟨qs⟩).run P w= .ok v' w/\aj β v v':=by
 unfold K9 at h;split at h
 ·rename_i fs _ _ z hr;obtain⟨hu,i,hi,_,_,hz⟩:=ok.ti t _ hr;obtain⟨z',jz,eP⟩:=hz rfl;replace h:=ax h;rcases h with⟨hk,h⟩|⟨_,h⟩
  ·obtain⟨pl,iZ,cv8⟩:=Ww (P:=P) (E:=E) ok fs (pn _ _ hk);split at h
   ·rename_i r El;cases h;obtain⟨r',cz,Af⟩:=Kn (β:=β) (place':=(pl.toArray[·]?)) (fun j p hj=>a0D) ps qs _ z r El hq (AF β z);refine⟨.agg ⟨r'⟩,run_build w t ⟨qs⟩ ⟨r'⟩ ?_,aj.nu Af⟩
    grind [Program.built]
   ·cases h
  ·cases h
 ·rename_i n e _ _ z hr;obtain⟨hu,i,hi,_,_,hz⟩:=ok.ti t _ hr;obtain⟨z',jz,eP⟩:=hz rfl;split at h
  ·rename_i re dU;obtain⟨_,ie,jb,lQ,_⟩:=ok.ti e re dU;split at h
   ·rename_i r El;cases h;obtain⟨r',cz,Af⟩:=Kn (β:=β) (place':=fun i=>some (i*ie.size,ie.size)) (fun j p hj=>a0D) ps qs _ z r El hq (AF β z);refine⟨.agg ⟨r'⟩,run_build w t ⟨qs⟩ ⟨r'⟩ ?_,aj.nu Af⟩
    grind [Program.built]
   ·cases h
  ·cases h
 ·cases h
end
def sa{α:Type}(f:Nat->α)(n:Nat):List α->List α:=Nat.rec (motive:=fun _=>List α->List α) (fun bJ=>bJ) (fun m ih bJ=>ih (f m::bJ)) n
theorem yQ{α:Type}(f:Nat->α):∀(n:Nat) (bJ:List α),sa f n bJ=(List.range n).map f++bJ
 |0,bJ=>rfl
 |n+1,bJ=>by
  show sa f n (f n::bJ)=_;rw[yQ f n,List.range_succ];simp
section
variable(ok:E.Ok P)(inv:Inv w0 E.G β A w)
def yx(E:au)(A:AW)(t:xN)(len:Nat)(ps:List (Nat×xM)):a0q:=
 match E.ti.get none t with
 |some ⟨.slice e,_,_,_,_⟩=>match E.ti.get none e with
  |some re=>bs (Nat.ble (Nat.mul len re.size) 16777216&&re.rb) (match BE (fun i=>some (Nat.mul i re.size,re.size)) ps (sa (fun _=>J) (Nat.mul len re.size) []) with
   |some r=>some (.slice (some ⟨A.next,0,none⟩) len len,A.add ⟨.cells r,re.size,true,false,e⟩)
   |none=>none) none
  |none=>none
 |_=>none
theorem VO:∀(ps:List (Nat×xM)) (cs r:a0e),BE uG ps cs=some r->r.length=cs.length
 |[],cs,r,h=>by cases h;rfl
 |p::ps,cs,r,h=>by
  have h':(match uG p.1,A6 p.2 with
   |some (off,size),some l=>bs (Nat.beq (bA l) size&&Nat.ble (Nat.add off (bA l)) (bA cs)) (BE uG ps (kQ l off cs)) none
   |_,_=>none)=some r:=h
  clear h;split at h'
  ·replace h':=ax h';rcases h' with⟨_,h'⟩|⟨_,h'⟩
   ·rw[VO ps _ r h',NX]
   ·cases h'
  ·cases h'
include ok in
theorem VF{v:xM}(h:yx E A t len ps=some (v,A'))(hq:E' β ps qs)(w:World):∃cs es e,A'=A.add ⟨.cells cs,es,true,false,e⟩/\uN β w A.next ((Instr.buildSlice t len ⟨qs⟩).run P w) v cs es e:=by
 unfold yx at h;split at h
 ·rename_i e _ _ _ _ hr;split at h
  ·rename_i re dU;replace h:=ax h;rcases h with⟨hb,h⟩|⟨_,h⟩
   ·rw[xf] at hb;have aK:len*re.size<=16777216:=xh hb.1;split at h
    ·rename_i r El;cases h;have hu:=(ok.ti t _ hr).1;obtain⟨_,ie,jb,lQ,_,hz⟩:=ok.ti e re dU;obtain⟨z,jz,eP⟩:=hz hb.2;obtain⟨C,hC⟩:∃C:a0e,((Array.range (len*re.size)).map (fun x=>(if len*re.size=0 then #[] else(⟨re.zero⟩:a0x))[x% (if len*re.size=0 then #[] else(⟨re.zero⟩:a0x)).size]!))=⟨C⟩:=⟨_,rfl⟩;have FP:C.length=len*re.size:=by have:=congrArg Array.size hC;simpa using this.symm
     have hlg:(sa (fun _=>J) (Nat.mul len re.size) []).length=len*re.size:=by rw[yQ];simp
     have hJ:aX β (sa (fun _=>J) (Nat.mul len re.size) []) C:=by
      refine⟨by rw[hlg,FP],fun i a b ha hb=> ?_⟩;rw[yQ,xj,xx] at ha;cases hq:(List.range (Nat.mul len re.size))[i]? with
      |none=>grind
      |some j=>rw[hq] at ha;cases ha;exact .jW _
     obtain⟨r',cz,Af⟩:=Kn (β:=β) (place':=fun i=>some (i*re.size,re.size)) (fun j p hj=>hj) ps qs _ C r El hq hJ;have aD:r'.length=len*re.size:=by rw[<-Af.1,VO ps _ r El,hlg]
     refine⟨_,_,_,rfl,r',.slice (some ⟨w.heap.size,0+0,none⟩) len len,?_,Af,fun β' hN=> .slice A.next 0 len len len _ hN (xk _) (xk _) (by simp[aD])⟩;have jA: ¬(2^24:Nat)<len*re.size:=a0B
     by_cases h0:len*re.size=0
     ·rw[if_pos h0] at hC;simp only [h0] at hC;simp[Instr.buildSlice,run_underlying hu,dL ok dU,jA,h0];simp at hC;rw[hC];simp[cz,newRow]
     ·rw[if_neg h0] at hC;simp[Instr.buildSlice,run_underlying hu,dL ok dU,jA,h0,zeroValue,typeInfo,jb,jz,eP];simp at hC;rw[hC];simp[cz,newRow]
    ·cases h
   ·cases h
  ·cases h
 ·cases h
include ok inv in
theorem av8{v:xM}(h:yx E A t len ps=some (v,A'))(hq:E' β ps qs):hY w0 E.G β A ((Instr.buildSlice t len ⟨qs⟩).run P w) v A':=by
 obtain⟨cs,es,e,rfl,hf⟩:=VF ok h hq w;exact uN.ML inv hf
def Lr(x:xM):a0r:=match x with| .int .i64 (.ofNat n)=>some n|_=>none
def yz(E:au)(A:AW)(t:xN)(l c:xM):a0q:=
 match E.ti.get none t,Lr l,Lr c with
 |some ⟨.slice e,_,_,_,_⟩,some l,some c=>match E.ti.get none e with
  |some re=>bs (re.rb&&Nat.beq (bA re.zero) re.size&&Nat.ble l c&&Nat.ble c 9223372036854775807&&Nat.ble (Nat.mul c re.bytes) 140737488355328)
   (some (.slice (some ⟨A.next,0,none⟩) l c,A.add ⟨.cells (sa (fun i=>match dP re.zero (Nat.mod i re.size) with|some v=>pA v|none=>J) (Nat.mul c re.size) []),re.size,true,false,e⟩)) none
  |none=>none
 |_,_,_=>none
theorem Xs{x:xM}(h:Lr x=some n)(hx:aj β x x'):x'= .int .i64 (n:Int):=by
 unfold Lr at h;split at h
 ·cases h;cases hx;rfl
 ·cases h
include ok in
theorem VJ{l c l' c' v:xM}(h:yz E A t l c=some (v,A'))(hl:aj β l l')(hc:aj β c c')(w:World):∃cs es e,A'=A.add ⟨.cells cs,es,true,false,e⟩/\uN β w A.next ((Instr.makeSlice t l' c').run P w) v cs es e:=by
 unfold yz at h;split at h
 ·rename_i e _ _ _ _ ln cn hr UD yg;split at h
  ·rename_i re dU;replace h:=ax h;rcases h with⟨hb,h⟩|⟨_,h⟩
   ·simp only [xf] at hb;obtain⟨⟨⟨⟨tF,pK⟩,dt⟩,bI2⟩,ue⟩:=hb;have nH:=xb pK;rw[du] at nH;have al6:=xh dt;have bw7:=xh bI2;have am6:cn*re.bytes<=140737488355328:=xh ue
    cases h;have hu:=(ok.ti t _ hr).1;obtain⟨_,ie,jb,lQ,yh,hz⟩:=ok.ti e re dU;obtain⟨z,jz,eP⟩:=hz tF;have e1:=Xs UD hl;have e2:=Xs yg hc;subst e1 e2;obtain⟨C,hC⟩:∃C:a0e,((Array.range (cn*re.size)).map (fun x=>(if cn*re.size=0 then #[] else(⟨re.zero⟩:a0x))[x% (if cn*re.size=0 then #[] else(⟨re.zero⟩:a0x)).size]!))=⟨C⟩:=⟨_,rfl⟩;have FP:C.length=cn*re.size:=by have:=congrArg Array.size hC;simpa using this.symm
    have gp:∀β',aX β' (sa (fun i=>match dP re.zero (Nat.mod i re.size) with|some v=>pA v|none=>J) (Nat.mul cn re.size) []) C:=fun β'=>by
     rw[yQ,xj];refine⟨a0D,fun i a b ha hb=> ?_⟩;have hi:i<cn*re.size:=by rw[<-FP];exact(xe.1 hb).1
     have h0: ¬cn*re.size=0:=a0B
     rw[xx,show Nat.mul cn re.size=cn*re.size from rfl,List.getElem?_range hi] at ha;simp only [Option.map_some,Option.some.injEq] at ha;have aS:0<re.size:=by
      rcases xI re.size with e|e
      ·grind
      ·exact e
     have hm:i%re.size<re.zero.length:=by rw[nH];exact Nat.mod_lt _ aS
     have Jc:C[i]? =some (re.zero[i%re.size]):=by
      have h2:=congrArg (fun a:a0x=>a[i]?) hC;simp only [if_neg h0] at h2;rw[Array.getElem?_map,Array.getElem?_range] at h2;rw[if_pos hi] at h2;simp only [Option.map_some,List.size_toArray,nH] at h2;rw[show C[i]? =(⟨C⟩:a0x)[i]? by simp,<-h2];simp[hm]
     rw[Jc] at hb;cases hb;rw[<-ha];have:dP re.zero (Nat.mod i re.size)=some re.zero[i%re.size]:=by rw[fK];show re.zero[i%re.size]? =_;simp[hm]
     grind [Dl]
    refine⟨_,_,_,rfl,C,.slice (some ⟨w.heap.size,0+0,none⟩) ln cn,?_,gp β,fun β' hN=> .slice A.next 0 ln cn cn _ hN al6 (xk _) (by simp[FP])⟩;have w1:IntKind.i64.wrap (ln:Int)=(ln:Int):=IntWalk.i64_in _ a0B;have w2:IntKind.i64.wrap (cn:Int)=(cn:Int):=IntWalk.i64_in _ a0B;have bM: ¬((281474976710656:Int)<(re.bytes:Int)*(cn:Int)):=by
     have h5:((cn*re.bytes:Nat):Int)<=140737488355328:=a0B
     rw[Int.natCast_mul,Int.mul_comm] at h5;omega
    have pr: ¬roomBytes<cn*re.bytes:=by rw[show roomBytes=140737488355328 from rfl];omega
    have wI: ¬((cn:Int)<0):=a0B
    have Hx: ¬((ln:Int)<0):=a0B
    have tH: ¬((cn:Int)<(ln:Int)):=a0B
    by_cases h0:cn*re.size=0
    ·rw[if_pos h0] at hC;simp[Instr.makeSlice,run_underlying hu,asInt,asIntOf,typeInfo,jb,yh,w1,w2,bM,wI,Hx,tH,askRoom,pr,dL ok dU,h0,newRow]
     grind
    ·rw[if_neg h0] at hC;simp[Instr.makeSlice,run_underlying hu,asInt,asIntOf,typeInfo,jb,yh,w1,w2,bM,wI,Hx,tH,askRoom,pr,dL ok dU,h0,newRow,zeroValue,jz,eP]
     grind
   ·cases h
  ·cases h
 ·cases h
include ok inv in
theorem aw7{l c l' c' v:xM}(h:yz E A t l c=some (v,A'))(hl:aj β l l')(hc:aj β c c'):hY w0 E.G β A ((Instr.makeSlice t l' c').run P w) v A':=by
 obtain⟨cs,es,e,rfl,hf⟩:=VJ ok h hl hc w;exact uN.ML inv hf
end
section
variable(ok:E.Ok P)(inv:Inv w0 E.G β A w)
theorem F'(w:World)(g:Nat)(cs:a0x):w.grownBy (w.setRow g cs) (some g):=
 ⟨rfl,rfl,rfl,a0C,fun k _ hk=>setRow_other w g k cs (fun e=>hk (by rw[e]))⟩
theorem yN(aB:a0x)(o:Nat)(vs:a0e)(h:o+vs.length<=aB.size)(j:Nat):
 ((aB.toList.take o++vs++aB.toList.drop (o+vs.length)).toArray)[j]? =if o<=j/\j<o+vs.length then vs[j - o]? else aB[j]? :=by
 grind
theorem VH(aB:a0x)(o:Nat)(vs:a0e)(h:o+vs.length<=aB.size):((aB.toList.take o++vs++aB.toList.drop (o+vs.length)).toArray).size=aB.size:=by
 simp;omega
include inv in
theorem Gk{B:Nat}{es:Nat}{ex:Bool}(hg:A.get B=some ⟨.cells cs,es,ex,false,ty⟩)(hB:E.G.n<=B){l:Loc}(hl:β B=some l){o:Nat}{vs mh:a0e}(hv:aX β vs mh)(aD:o+vs.length<=cs.length)
 (h1:∀v∈mh,v.oneCell'=true):∃w',(storeCells ⟨l.b,l.d+o,none⟩ mh 0).run P w= .ok () w'/\Inv w0 E.G β (A.put B (some ⟨.cells (kQ vs o cs),es,ex,false,ty⟩)) w':=by
 obtain⟨aB,e,fz,k1,k2,k3,k4,k5,k6,k7⟩:=inv.cont B _ l hg hl;obtain rfl:=k5 rfl;have mq:=hv.1;have iW:l.d+o+0+mh.length<=aB.size:=a0B
 have bg:=run_storeCells_at (P:=P) l.b (l.d+o) e mh 0 aB w k1 iW h1;rw[Nat.add_zero] at bg;refine⟨_,bg,inv.write B l _ _ hg hl hB (F' w l.b _) a0C ?_⟩;rw[setRow_heap w l.b aB _ e (0,0) k1];refine⟨_,e,(0,0),rfl,a0D,by rw[NX];exact k3,fun i v hi=> ?_,fun _=>rfl,fun hx=>by grind [NX],k7⟩;rw[aA9 vs o cs i aD] at hi;rw[yN _ _ _ a0B];by_cases CI:o<=i/\i<o+vs.length
 ·rw[if_pos CI] at hi;rw[if_pos a0B,show l.d+i - (l.d+o)=i - o by omega];exact hv.get hi
 grind
def yV(E:au)(A:AW)(t:xN)(a x:xM):Option AW:=
 match a with
 | .pointer (some ⟨B,o,none⟩)=>
  match E.ti.get none t,A6 x,A.get B with
  |some r,some l,some ⟨.cells cs,es,ex,false,ty⟩=>
   bs (fq one l&&Nat.beq (bA l) r.size&&Nat.ble E.G.n B&&Nat.ble (Nat.add o (bA l)) (bA cs)) (some (A.put B (some ⟨.cells (kQ l o cs),es,ex,false,ty⟩))) none
  |_,_,_=>none
 |_=>none
include ok inv in
theorem aK8{a a' x:xM}(h:yV E A t a x=some A')(ha:aj β a a')(hx:aj β x x'):∃w',(Instr.storeAt t a' x').run P w= .ok () w'/\Inv w0 E.G β A' w':=by
 unfold yV at h;split at h
 ·rename_i B o;split at h
  ·rename_i r l cs es ex ty hr Ul hg;replace h:=ax h;rcases h with⟨hb,h⟩|⟨_,h⟩
   ·simp only [xf,du] at hb;obtain⟨⟨⟨se,aS⟩,hG⟩,aK⟩:=hb;have H9:=xb aS;have jd:=xh hG;have wM:o+l.length<=cs.length:=xh aK;cases h;cases ha with
    |ptr _ _ lc dt=>
     obtain⟨l',fj,jN⟩:=N6 Ul hx;obtain⟨w',aM,bZ⟩:=Gk (P:=P) inv hg jd dt jN wM (Kz se jN);refine⟨w',?_,bZ⟩;have h5:l'.length=r.size:=by rw[<-jN.1,H9]
     simp[Instr.storeAt,Instr.sureAddr,storeVar,dL ok hr,fj,h5,aM]
   ·cases h
  ·cases h
 ·cases h
theorem Inv.R4(h:Inv w0 E.G β A w){w':World}(l:Loc)(blk:aE)(gg:l.b<w.heap.size)(aW:w0.heap.size<=l.b\/β.x l.b)(hz:β.z l.b=none)(Uh:β.y l.b=none)(jA:∀C lc,β C=some lc->lc.b=l.b->A.get C=none)
 (hw:w.grownBy w' (some l.b)) (aS:w'.heap.size=w.heap.size) (hb:gb (β.put A.next l) l blk w'.heap[l.b]?) (hp:r7 blk:=by intro c h;cases h):
 Inv w0 E.G (β.put A.next l) (A.add blk) w'/\β.grow (β.put A.next l) A.next:=by
 have aK:β.le (β.put A.next l):=h.gC (af.vT β A.next l);have hn:A.get A.next=none:=h.cW _ (xk _);have jJ:∀B lb,β.put A.next l B=some lb->(B=A.next/\lb=l)\/(B≠A.next/\β B=some lb):=fun B lb e=>by
  rw[af.rV] at e
  grind
 have ia:∀B,B≠A.next->(A.add blk).get B=A.get B:=fun B hB=>by
  grind [absurd,A.ni]
 refine⟨⟨h.below.grown hw aW,fun B lb e=> ?_,fun B hB=> ?_,fun B lb e=> ?_,fun B B' lb Cv e e' eE ha lz=> ?_,fun B k lb hk e=> ?_,fun g hg=> ?_,
  fun b cs e=>OH hw (fun e2=>by have e':β.z b=some cs:=e;grind) (h.cP b cs e),fun B lb kb hG e ha hs=> ?_,h.dJ,fun B k hk=> ?_,fun B v e=>Nat.lt_succ_of_lt (h.iB B v e),h.lay,h.xg,h.jP,h.zo,fun b hh hy=> ?_⟩,af.vT β A.next l⟩
 ·show B<A.next+1;rcases jJ B lb e with⟨e1,_⟩|⟨_,e⟩
  ·omega
  ·exact Nat.lt_succ_of_lt (h.fI B lb e)
 ·have vE:A.next+1<=B:=hB
  grind [h.cW]
 ·rw[aS];rcases jJ B lb e with⟨_,e2⟩|⟨_,e⟩
  ·rw[e2];exact⟨gg,.inr aW⟩
  ·exact h.loc B lb e
 ·grind [eE.symm,h.inj]
 ·rcases jJ B lb e with⟨h1,h2⟩|⟨hB,f⟩
  ·rw[h1] at hk;rw[h2];rcases A.ni blk hn A.next with⟨e2,_⟩|e2
   ·grind
   grind
  ·rw[ia B hB] at hk;have bq:lb.b≠l.b:=fun e3=>a0D
   rw[hw.block lb.b (h.loc B lb f).1 (fun e3=>bq (xC e3))];exact(h.cont B k lb hk f).mono aK
 ·grind [h.jk,aK.f]
 ·rcases jJ B lb e with⟨_,h2⟩|⟨hB,f⟩
  ·rw[h2];exact hz
  ·rw[ia B hB] at ha;exact h.sep B lb kb hG f ha hs
 ·rcases A.ni blk hn B with⟨e2,_⟩|e2
  ·grind [hk,hp.ok]
  ·rw[e2] at hk;exact(h.own B k hk).mono aK
 ·obtain⟨y1,y2,y3,y4⟩:=h.dR b hh hy;have bq:b≠l.b:=fun e=>by
   have hy':β.y b=some hh:=hy
   grind
  refine⟨by grind [Array.getElem?_eq_some_iff,xC,hw.block],y2,y3,fun B lb e ha=> ?_⟩
  grind
def L8(A:AW)(size:Nat)(x:xM):Option (Nat×List xM):=
 match x with
 | .slice none 0 0=>some (0,[])
 | .slice (some ⟨B,o,none⟩) n _=>bs (Nat.beq n 0) (some (0,[])) (match jw A B with
  |some cs=>match oK (Nat.mul n size) (p9 o cs) with|some l=>bs (fq one l) (some (n,l)) none|none=>none
  |none=>none)
 | .string ⟨⟨l⟩⟩=>bs (Nat.beq size 1) (some (bA l,eY (fun b=>Value.int .u8 (.ofNat b.toNat)) l)) none
 |_=>none
def J8(d:TypeDesc)(x:xM):Bool:=
 match d,x with
 | .slice _,.slice _ _ _=>true
 | .string,.string _=>true
 |_,_=>false
include inv in
theorem Zd{size:Nat}(hu:P.underlying tx=some d){x:xM}(h:L8 A size x=some (n,l))(hk:J8 d x=true)(hx:aj β x x'):∃l',aX β l l'/\Src P size tx x' n l' w:=by
 unfold L8 at h;split at h
 ·cases h;cases hx;cases d<;>first|(cases hk;done)|exact⟨[],aX.nil β,Src.ofNil w hu 0⟩
 ·rename_i B o n' c;have gd:∃e,d= .slice e:=by cases d<;>first|(cases hk;done)|grind
  obtain⟨e,rfl⟩:=gd;replace h:=ax h;rcases h with⟨h0,h⟩|⟨h0,h⟩
  ·have uf:=xb h0;subst uf;cases h;cases hx with
   |slice _ _ _ _ c' lc dt hn hc he=>exact⟨[],aX.nil β,Src.ofSlice w hu _ 0 c' [] a0C (fun j u hu=>by simp at hu) (fun u hu=>by cases hu)⟩
   |empty _ a' c'=>exact⟨[],aX.nil β,Src.ofSlice w hu _ 0 c' [] a0C (fun j u hu=>by simp at hu) (fun u hu=>by cases hu)⟩
  ·split at h
   ·rename_i cs cJ;split at h
    ·rename_i q hq;replace h:=ax h;rcases h with⟨se,h⟩|⟨_,h⟩
     ·cases h;cases hx with
      |slice _ _ _ _ c' lc dt hn hc he=>
       obtain⟨l',fj,aD,ao⟩:=yC inv cJ dt o _ l hq;exact⟨l',fj,Src.ofSlice w hu _ n c' l' (by rw[<-fj.1,aD];rfl) (fun j u hu=>by rw[Addr.add_mid];exact ao j u hu) (Kz se fj)⟩
      |empty _ a' c'=>cases h0
     ·cases h
    ·cases h
   ·cases h
 ·rename_i s;have gd:d= .string:=by cases d<;>first|(cases hk;done)|rfl
  subst gd;replace h:=ax h;rcases h with⟨h0,h⟩|⟨_,h⟩
  ·have uf:=xb h0;subst uf;cases h;cases hx;refine⟨byteCells ⟨⟨s⟩⟩,?_,?_⟩
   ·have:eY (fun b:UInt8=>Value.int .u8 (.ofNat b.toNat)) s=byteCells ⟨⟨s⟩⟩:=by rw[pj];rfl
    rw[this];refine⟨rfl,fun i v v' a b=> ?_⟩;rw[a] at b;cases b;unfold byteCells at a;rw[xx] at a;obtain⟨q,_,rfl⟩:=xp.1 a;exact .int _ _
   ·have:=Src.ofString (P:=P) w hu ⟨⟨s⟩⟩;rw[du];exact this
  ·cases h
 ·cases h
end
section
variable(ok:E.Ok P)(inv:Inv w0 E.G β A w)
def QV(E:au)(t tx:xN)(x:xM):Option (Row×xN):=
 match E.ti.get none t,E.ti.get none tx with
 |some ⟨.slice e,_,_,_,_⟩,some rx=>match E.ti.get none e with
  |some re=>bs (re.rb&&Nat.beq (bA re.zero) re.size&&Nat.ble 1 re.size&&J8 rx.desc x) (some (re,e)) none
  |none=>none
 |_,_=>none
def LI(ai3 bytes:Nat):Bool:=Nat.ble ai3 9223372036854775807&&Nat.ble (Nat.mul ai3 bytes) 140737488355328
def DN(E:au)(A:AW)(t tx:xN)(s x:xM):a0q:=
 match QV E t tx x with
 |none=>none
 |some (re,e)=>match L8 A re.size x with
  |none=>none
  |some (n,l)=>
   match s with
   | .slice none 0 0=>bs (Nat.beq n 0) (some (.slice none 0 0,A)) (bs (LI n re.bytes) (some (.slice (some ⟨A.next,0,none⟩) n n,A.add ⟨.cells l,re.size,false,false,e⟩)) none)
   | .slice (some ⟨B,o,none⟩) sl c=>
    bs (Nat.beq n 0) (some (.slice (some ⟨B,o,none⟩) sl c,A))
    (bs (Nat.beq B tq) none
    (match A.get B with
    |some ⟨.cells cs,es,ex,ro,ty⟩=>
     bs (Nat.beq es re.size&&Nat.ble sl c) (bs (Nat.ble (Nat.add sl n) c)
      (bs (not ro&&Nat.ble E.G.n B&&Nat.ble (Nat.add (Nat.add o (Nat.mul sl re.size)) (bA l)) (bA cs)) (some (.slice (some ⟨B,o,none⟩) (Nat.add sl n) c,A.put B (some ⟨.cells (kQ l (Nat.add o (Nat.mul sl re.size)) cs),es,ex,false,ty⟩))) none)
      (match oK (Nat.mul sl re.size) (p9 o cs) with
      |some eT=>bs (LI (Nat.add sl n) re.bytes)
       (bs (ex&&Nat.beq (Nat.add o (Nat.mul c re.size)) (bA cs)) (some (.slice (some ⟨A.next,0,none⟩) (Nat.add sl n) (Nat.add sl n),A.add ⟨.cells (iU eT l),re.size,false,false,e⟩))
        (bs (not ro&&Nat.ble E.G.n B&&Nat.beq ty e) (some (.slice (some ⟨A.next,0,none⟩) (Nat.add sl n) (Nat.add sl n),(A.put B none).add ⟨.cells (iU eT l),re.size,false,false,e⟩)) none)) none
      |none=>none)) none
    |_=>none))
   |_=>none
include inv in
theorem JU(cs bC rest:a0e)(e:xN)(es:Nat)(aB:a0x)(Mx:aB.toList=bC++rest)(hc:∀β',β.le β'->aX β' cs bC):
 Inv w0 E.G (β.put A.next ⟨w.heap.size,0,es,aB.size⟩) (A.add ⟨.cells cs,es,false,false,e⟩) (w.drew.alloc (.cells aB e))/\β.grow (β.put A.next ⟨w.heap.size,0,es,aB.size⟩) A.next:=by
 have aK:β.le (β.put A.next ⟨w.heap.size,0,es,aB.size⟩):=inv.gC (af.vT β A.next _);have h:=hc _ aK;have aS:aB.size=bC.length+rest.length:=by rw[<-Array.length_toList,Mx];simp
 refine(inv.drew (w.drawn+1)).new _ _ _ rfl ⟨aB,e,(0,0),rfl,rfl,by simp[h.1,aS],fun i v hv=> ?_,fun _=>rfl,(fun h=>by cases h),rfl,fun _=>rfl⟩;obtain⟨v',gz,hr⟩:=h.get hv;refine⟨v',?_,hr⟩;rw[<-Array.getElem?_toList,Mx,Nat.zero_add,xw (xe.1 gz).1];exact gz
include ok in
theorem aI7{x:xM}{re:Row}{e:xN}(h:QV E t tx x=some (re,e)):∃d ie z,P.underlying t=some (.slice e)/\P.underlying tx=some d/\J8 d x=true/\E.ti.get none e=some re/\P.info? e=some ie/\ie.size=re.size/\ie.bytes=re.bytes/\
 ie.zero=some z/\z.cells.size=re.size/\1<=re.size:=by
 unfold QV at h;split at h
 ·rename_i e0 _ _ _ _ rx hr hrx;split at h
  ·rename_i r dU;replace h:=ax h;rcases h with⟨hb,h⟩|⟨_,h⟩
   ·cases h;simp only [xf,du] at hb;obtain⟨⟨⟨hz,hl⟩,h1⟩,hk⟩:=hb;obtain⟨_,ie,jb,hs,ue,eP⟩:=ok.ti e re dU;obtain⟨z,lP,Nf⟩:=eP hz;exact⟨rx.desc,ie,z,(ok.ti t _ hr).1,(ok.ti tx _ hrx).1,hk,dU,jb,hs,ue,lP,by simp_all,xh h1⟩
   ·cases h
  ·cases h
 ·cases h
theorem F9{e:xN}{i:TypeInfo}(ht:P.underlying t=some (.slice e))(hi:P.info? e=some i){x:xM}{dI:a0e}(hs:Src P i.size tx x 0 dI w)(n9:Option Addr)(sl c:Nat)(aK:sl<=c):
 (Builtin.append_ #[t,tx] ty #[.slice n9 sl c,x]).run P w= .ok (.slice n9 sl c) w:=by
 have hn:dI=[]:=xA (by simpa using hs.newsLen);subst hn;have hc:=hs.cells;cases n9 with
 |none=>rcases hs.kind with⟨e',hk⟩|hk<;>simp[Builtin.append_,run_underlying ht,run_underlying hk,sizeOf,typeInfo,hi,hs.len,aK,hc]
 |some a=>rcases hs.kind with⟨e',hk⟩|hk<;>simp[Builtin.append_,run_underlying ht,run_underlying hk,sizeOf,typeInfo,hi,hs.len,aK,hc,storeCells]
theorem Jn(z:a0x)(n:Nat):(Builtin.zeroCells z n).size=n*z.size:=by simp[Builtin.zeroCells]
include ok inv in
theorem aI6{s s' x v:xM}(h:DN E A t tx s x=some (v,A'))(hs:aj β s s')(hx:aj β x x'):hY w0 E.G β A ((Builtin.append_ #[t,tx] ty #[s',x']).run P w) v A':=by
 unfold DN at h;split at h
 ·cases h
 rename_i re e dU;obtain⟨d,ie,z,hu,hux,hk,hte,jb,lQ,ue,hz,Nb,h1⟩:=aI7 ok dU;split at h
 ·cases h
 rename_i n l qT;obtain⟨l',jN,src⟩:=Zd (P:=P) inv hux qT hk hx;rw[<-lQ] at src;have kJ:l'.length=n*re.size:=by rw[src.newsLen,lQ]
 split at h
 ·
  cases hs;replace h:=ax h;rcases h with⟨h0,h⟩|⟨h0,h⟩
  ·have uf:=xb h0;subst uf;cases h;exact⟨β,_,w,F9 hu jb src none 0 0 (xk _),.rP,inv,af.cb _ _⟩
  ·replace h:=ax h;rcases h with⟨hf,h⟩|⟨_,h⟩
   ·unfold LI at hf;rw[xf] at hf;have f1:=xh hf.1;have f2:n*re.bytes<=140737488355328:=xh hf.2;cases h;have uf: ¬n=0:=fun e=>by subst e;cases h0
    have aM:=run_append_grow_src (P:=P) w t tx ty e ie z hu jb hz none 0 0 [] (run_firstCells_none w.drew ie.size 0 0 0) x' n l' src a0B a0B (growslice_fits a0B (by rw[ue,Nat.zero_add];exact f2));have iL:=grownCap_ge w (0+n) 0 e;obtain⟨g1,g2⟩:=JU inv l l' (Builtin.zeroCells z.cells (grownCap w (0+n) 0 e - (0+n))).toList e re.size (([]++l').toArray++Builtin.zeroCells z.cells (grownCap w (0+n) 0 e - (0+n))) a0C (fun β' hb=>jN.mono hb);refine⟨_,_,_,aM,?_,g1,g2⟩;have hval:=aj.slice (β:=β.put A.next ⟨w.heap.size,0,re.size,(([]++l').toArray++Builtin.zeroCells z.cells (grownCap w (0+n) 0 e - (0+n))).size⟩) A.next 0 n n (grownCap w (0+n) 0 e) _ (ju _ _ _) (xk _) a0B (by
     simp only [List.nil_append,Array.size_append,List.size_toArray,Jn,Nb,kJ,Nat.zero_add,<-Nat.add_mul];apply xD;omega)
    simpa using hval
   ·cases h
 ·rename_i B o sl c;replace h:=ax h;rcases h with⟨h0,h⟩|⟨h0,h⟩
  ·have uf:=xb h0;subst uf;cases h;cases hs with
   |slice _ _ _ _ c' lc dt hn hc he=>exact⟨β,_,w,F9 hu jb src _ sl c' a0B,.slice B o sl c c' lc dt hn hc he,inv,af.cb _ _⟩
   |empty _ a' c'=>exact⟨β,_,w,F9 hu jb src _ 0 c' a0B,.empty o a' c',inv,af.cb _ _⟩
  have uf: ¬n=0:=fun e=>by subst e;cases h0
  replace h:=ax h;rcases h with⟨_,h⟩|⟨ht,h⟩
  ·cases h
  split at h
  ·rename_i cs es ex ro zY hg;replace h:=ax h;rcases h with⟨hb,h⟩|⟨_,h⟩;rotate_left
   ·cases h
   rw[xf] at hb;have dS:=xb hb.1;subst dS;have cv4:=xh hb.2;obtain⟨c',lc,dt,hn,hc,he,rfl⟩:∃c' lc,β B=some lc/\sl<=c/\c<=c'/\lc.d+o+c'*lc.es<=lc.sz/\s'= .slice (some ⟨lc.b,lc.d+o,none⟩) sl c':=by
    cases hs with
    |slice _ _ _ _ c' lc dt hn hc he=>exact⟨c',lc,dt,hn,hc,he,rfl⟩
    |empty=>cases ht
   obtain⟨aB,eb,fz,k1,k2,k3,k4,k5,k6,k7⟩:=inv.cont B _ lc hg dt;have II:lc.es=re.size:=k7.1;have k8':zY≠jS->eb=zY:=k7.2;replace h:=ax h;rcases h with⟨pr,h⟩|⟨pr,h⟩
   ·
    have ZG:sl+n<=c:=xh pr;replace h:=ax h;rcases h with⟨bM,h⟩|⟨_,h⟩;rotate_left
    ·cases h
    simp only [xf,Bool.not_eq_true',du] at bM;obtain⟨⟨lj,hG⟩,iW⟩:=bM;subst lj;have jd:=xh hG;have bw3:o+sl*re.size+l.length<=cs.length:=xh iW;cases h;obtain rfl:=k5 rfl;obtain⟨w',bg,bZ⟩:=Gk (P:=P) inv hg jd dt jN bw3 src.one;have gg:=jN.1;have iz:∀j,j<l'.length->(w.cell? ⟨lc.b,lc.d+o+sl*ie.size+j,none⟩).isSome=true:=fun j hj=>by
     rw[cell_of_row w lc.b _ aB eb (0,0) k1];have:lc.d+o+sl*ie.size+j<aB.size:=by rw[lQ];omega
     simp[this]
    have lT:∀j,j<l'.length->w.frozen? ⟨lc.b,lc.d+o+sl*ie.size+j,none⟩=false:=fun j _=>by simp[World.frozen?,k1]
    have aM:=run_append_room_src (P:=P) w t tx ty e ie hu jb lc.b (lc.d+o) sl c' x' n l' src a0B iz lT;have sd:=run_storeCells_cells (P:=P) lc.b (lc.d+o+sl*ie.size) l' 0 w (by simpa using iz) (by simpa using lT) src.one;rw[Nat.add_zero] at sd;rw[<-Nat.add_assoc,<-lQ,sd] at bg;cases bg;exact⟨β,_,_,aM,.slice B o (sl+n) c c' lc dt ZG hc he,bZ,af.cb _ _⟩
   ·have ZG: ¬sl+n<=c:=fun e=>by rw[show Nat.add sl n=sl+n from rfl,Nat.ble_eq_true_of_le e] at pr;cases pr
    split at h;rotate_left
    ·cases h
    rename_i eT holds;obtain⟨zm,vq,ab9,ak8⟩:=yC inv (show jw A B=some cs by unfold jw;rw[hg]) dt o _ eT holds;have ZJ:zm.length=sl*re.size:=by rw[<-vq.1,ab9];rfl
    replace h:=ax h;rcases h with⟨hf,h⟩|⟨_,h⟩;rotate_left
    ·cases h
    unfold LI at hf;rw[xf] at hf;have f1:sl+n<=9223372036854775807:=xh hf.1;have f2:(sl+n)*re.bytes<=140737488355328:=xh hf.2;have HA:∀(A1:AW),A1.next=A.next->Inv w0 E.G β A1 w->c'<sl+n->hY w0 E.G β A ((Builtin.append_ #[t,tx] ty #[.slice (some ⟨lc.b,lc.d+o,none⟩) sl c',x']).run P w) (.slice (some ⟨A.next,0,none⟩) (sl+n) (sl+n)) (A1.add ⟨.cells (iU eT l),re.size,false,false,e⟩):=fun A1 CV mO bk=>by
     have kU:(Builtin.firstCells ie.size sl (.slice (some ⟨lc.b,lc.d+o,none⟩) sl c')).run P w.drew= .ok zm.toArray w.drew:=
      run_firstCells_some w.drew ie.size sl _ sl c' zm (by rw[lQ];exact ZJ) (fun j u hu=>by rw[Addr.add_mid];exact ak8 j u hu)
     have aM:=run_append_grow_src (P:=P) w t tx ty e ie z hu jb hz (some ⟨lc.b,lc.d+o,none⟩) sl c' zm kU x' n l' src bk a0B (growslice_fits bk (by rw[ue];exact f2));have iL:=grownCap_ge w (sl+n) c' e;obtain⟨g1,g2⟩:=JU mO (iU eT l) (zm++l') (Builtin.zeroCells z.cells (grownCap w (sl+n) c' e - (sl+n))).toList e re.size ((zm++l').toArray++Builtin.zeroCells z.cells (grownCap w (sl+n) c' e - (sl+n))) a0C (fun β' hb=>by rw[mF];exact(vq.append jN).mono hb);rw[CV] at g1 g2;refine⟨_,_,_,aM,?_,g1,g2⟩;have hval:=aj.slice (β:=β.put A.next ⟨w.heap.size,0,re.size,((zm++l').toArray++Builtin.zeroCells z.cells (grownCap w (sl+n) c' e - (sl+n))).size⟩) A.next 0 (sl+n) (sl+n) (grownCap w (sl+n) c' e) _ (ju _ _ _) (xk _) iL (by
      simp only [Array.size_append,List.size_toArray,xa,Jn,Nb,kJ,ZJ,Nat.zero_add,<-Nat.add_mul];apply xD;omega)
     simpa using hval
    replace h:=ax h;rcases h with⟨I5,h⟩|⟨_,h⟩
    ·
     rw[xf,du] at I5;have uY:o+c*re.size=cs.length:=xb I5.2;cases h;refine HA A rfl inv ?_;have h6:=(k6 I5.1).2;rw[II] at he;have h8:c'*re.size<=c*re.size:=a0B
     have h9:c'<=c:=Nat.le_of_mul_le_mul_right h8 a0B;omega
    ·replace h:=ax h;rcases h with⟨qv,h⟩|⟨_,h⟩;rotate_left
     ·cases h
     simp only [xf,Bool.not_eq_true'] at qv;obtain⟨⟨lj,hG⟩,Ab⟩:=qv;subst lj;have aj3:=xb Ab;have jd:=xh hG;obtain rfl:=k5 rfl;cases h;have mO:=inv.kill B;by_cases bk:c'<sl+n
     ·exact HA (A.put B none) rfl mO bk
     ·
      have gg:=jN.1;have B7:(sl+n)*re.size<=c'*re.size:=xD _ a0B;rw[Nat.add_mul] at B7;rw[II] at he;have iz:∀j,j<l'.length->(w.cell? ⟨lc.b,lc.d+o+sl*ie.size+j,none⟩).isSome=true:=fun j hj=>by
       rw[cell_of_row w lc.b _ aB eb (0,0) k1];have:lc.d+o+sl*ie.size+j<aB.size:=by rw[lQ];omega
       simp[this]
      have lT:∀j,j<l'.length->w.frozen? ⟨lc.b,lc.d+o+sl*ie.size+j,none⟩=false:=fun j _=>by simp[World.frozen?,k1]
      have aM:=run_append_room_src (P:=P) w t tx ty e ie hu jb lc.b (lc.d+o) sl c' x' n l' src a0B iz lT;have sd:=run_storeCells_cells (P:=P) lc.b (lc.d+o+sl*ie.size) l' 0 w (by simpa using iz) (by simpa using lT) src.one;rw[Nat.add_zero] at sd;have bg:=run_storeCells_at (P:=P) lc.b (lc.d+o+sl*ie.size) eb l' 0 aB w k1 (by rw[lQ];omega) src.one;rw[Nat.add_zero,sd] at bg;have SC:=(Result.ok.inj bg).2;rw[SC] at aM;obtain⟨bG4,bG3⟩:=inv.loc B lc dt;have Ek:lc.d+o+sl*ie.size+l'.length<=aB.size:=by rw[lQ];omega
      obtain⟨g1,g2⟩:=Inv.R4 (E:=E) mO (w':=w.setRow lc.b (aB.toList.take (lc.d+o+sl*ie.size)++l'++aB.toList.drop (lc.d+o+sl*ie.size+l'.length)).toArray) ⟨lc.b,lc.d+o,re.size,lc.sz⟩ ⟨.cells (iU eT l),re.size,false,false,e⟩ bG4 (bG3.resolve_left a0B) (inv.sep B lc _ a0B dt hg rfl)
       (show β.y lc.b=none from inv.GM dt (by rw[hg];rfl)) (fun C lC hC eE=>by
        rcases A.gk B none C with⟨e1,_⟩|⟨e1,_⟩|⟨e1,bq⟩
        ·exact e1
        ·exact e1
        ·rw[e1];cases Nt:A.get C with
         |none=>rfl
         |some kk=>exact absurd (inv.inj C B lC lc hC dt eE (by rw[Nt];rfl) (by rw[hg];rfl)) bq)
       (F' w lc.b _) a0C (by
        rw[setRow_heap w lc.b aB _ eb (0,0) k1];have bG1:β.le (β.put (A.put B none).next ⟨lc.b,lc.d+o,re.size,lc.sz⟩):=mO.gC (af.vT β _ _);refine⟨_,eb,(0,0),rfl,by rw[VH _ _ _ Ek];exact k2,?_,fun i v hv=> ?_,fun _=>rfl,(fun h=>by cases h),rfl,fun bq=>(k8' (by rw[aj3];exact bq)).trans aj3⟩
        ·show lc.d+o+(iU eT l).length<=lc.sz;rw[mF,xa,ab9,gg,kJ];show lc.d+o+(sl*re.size+n*re.size)<=lc.sz;omega
        ·have dK:(eT++l)[i]? =some v:=by rw[<-mF];exact hv
         obtain⟨v',gz,gp⟩:=(vq.append jN).get dK;refine⟨v',?_,gp.mono bG1⟩;show(List.toArray _)[lc.d+o+i]? =some v';rw[yN _ _ _ Ek];by_cases hi:i<sl*re.size
         ·rw[if_neg (by rw[lQ];omega)];rw[xw a0B] at gz;have:=ak8 i v' gz;rw[cell_of_row w lc.b _ aB eb (0,0) k1] at this;exact this
         ·rw[xq a0B] at gz;have SI:=(xe.1 gz).1;rw[if_pos (by rw[lQ];omega),show lc.d+o+i - (lc.d+o+sl*ie.size)=i - zm.length by rw[lQ];omega];exact gz)
      have j4:(A.put B none).next=A.next:=rfl;rw[j4] at g1 g2;refine⟨_,_,_,aM,?_,g1,g2⟩;have hval:=aj.slice (β:=β.put A.next ⟨lc.b,lc.d+o,re.size,lc.sz⟩) A.next 0 (sl+n) (sl+n) c' _ (ju _ _ _) (xk _) a0B (by simpa using he);simpa using hval
  ·cases h
 ·cases h
end
theorem ZX(a b:a0h):((⟨⟨a⟩⟩:ByteArray)==⟨⟨b⟩⟩)=decide (a=b):=by
 show(BEq.beq (⟨a⟩:Array UInt8) ⟨b⟩)=_
 grind
theorem WH:∀(ks:a0u) (a b:a0e),eZ ks a b=some true->a=b
 |[],a,b,h=>by
  have h':pD a b=some true:=h
  grind [pD]
 |k::ks,a,b,h=>by
  have h':n7 k (eZ ks) a b=some true:=h;clear h;unfold n7 at h';split at h'
  ·rename_i j m a j' n b;replace h':=ax h';rcases h' with⟨hk,h'⟩|⟨_,h'⟩
   ·rw[xf] at hk;split at h'
    ·rename_i r hr;have h2:=xC h';replace h2:=ax h2;rcases h2 with⟨hi,h2⟩|⟨_,h2⟩
     ·subst h2;rw[oG] at hi;rw[pY hk.1,pY hk.2,of_decide_eq_true hi,WH ks a b hr]
     ·cases h2
    ·cases h'
   ·cases h'
  ·cases h'
theorem WJ:∀(ks:a0u) (a b:a0e),eZ ks a b=some true->∀n,(a.zip b).all (fun p=>Instr.sameBits (n+1) p.1 p.2)=true
 |[],a,b,h,n=>by
  have h':pD a b=some true:=h;clear h;unfold pD at h';split at h'
  ·rfl
  ·cases h'
 |k::ks,a,b,h,n=>by
  have h':n7 k (eZ ks) a b=some true:=h;clear h;unfold n7 at h';split at h'
  ·rename_i j m a1 j' n' b1;replace h':=ax h';rcases h' with⟨hk,h'⟩|⟨_,h'⟩
   ·rw[xf] at hk;split at h'
    ·rename_i r hr;have h2:=xC h';replace h2:=ax h2;rcases h2 with⟨hi,h2⟩|⟨_,h2⟩
     ·subst h2;rw[oG] at hi;have ih:=WJ ks a1 b1 hr n;rw[List.zip_cons_cons,List.all_cons,xf];refine⟨?_,ih⟩;rw[pY hk.1,pY hk.2,of_decide_eq_true hi];simp[Instr.sameBits]
     ·cases h2
    ·cases h'
   ·cases h'
  ·cases h'
def jg(E:au)(sq:a0c)(kt:xN)(k k2:xM):Option Bool:=
 match k,k2 with
 | .string ⟨⟨a⟩⟩,.string ⟨⟨b⟩⟩=>match E.ti.get none kt with|some ⟨.string,_,_,_,_⟩=>some (u7 a b)|_=>none
 | .agg ⟨a⟩,.agg ⟨b⟩=>match iw sq kt with|some ks=>eZ ks a b|none=>none
 |_,_=>none
def qd(E:au)(sq:a0c)(kt:xN)(k:xM)(es:a0k):Nat->Option (Option (Nat×xM)):=
 List.rec (motive:=fun _=>Nat->Option (Option (Nat×xM))) (fun _=>some none) (fun e _ ih i=>match jg E sq kt k e.key with
  |none=>none
  |some true=>some (some (i,e.val))
  |some false=>ih (Nat.add i 1)) es
def rT(E:au)(sq:a0c)(kt:xN)(k:xM):Bool:=
 match jg E sq kt k k with
 |some true=>true
 |_=>false
def iC(β:af)(es es':a0k):Prop:=es.length=es'.length/\∀(i:Nat) e e',es[i]? =some e->es'[i]? =some e'->Fb β e e'
theorem iC.mono{β':af}(hb:β.le β')(h:iC β es es'):iC β' es es':=⟨h.1,fun i e e' a b=>⟨(h.2 i e e' a b).1,(h.2 i e e' a b).2.1.mono hb,(h.2 i e e' a b).2.2.mono hb⟩⟩
theorem iC.pc{r:a0k}(h:iC β (e::es) r):∃e' es',r=e'::es'/\Fb β e e'/\iC β es es':=by
 cases r with
 |nil=>exact absurd h.1 a0C
 |cons e' l'=>exact⟨e',l',rfl,h.2 0 e e' rfl rfl,by have:=h.1;grind,fun i a b ha hb=>h.2 (i+1) a b a0D a0D⟩
theorem iC.qD{r:a0k}(h:iC β [] r):r=[]:=by
 cases r with
 |nil=>rfl
 |cons _ _=>exact absurd h.1 a0C
def TU(β:af)(es':a0k)(r r':Option (Nat×xM)):Prop:=
 (r=none/\r'=none)\/∃j v v',r=some (j,v)/\r'=some (j,v')/\aj β v v'
section
variable(ok:E.Ok P){sq:a0c}(aR:E.Seq P sq)
theorem Of(hs:∀k2 gw b,jg E sq kt k k2=some b->aj β k2 gw->Instr.sameNow d k' gw=some b):∀(es es':a0k) (i:Nat) (r:Option (Nat×xM)),qd E sq kt k es i=some r->iC β es es'->
 ∃r',Instr.findNow d k' es' i=some r'/\TU β es' r r'
 |[],es',i,r,h,hm=>by
  rw[hm.qD];cases h;exact⟨none,rfl,.inl ⟨rfl,rfl⟩⟩
 |e::es,es',i,r,h,hm=>by
  obtain⟨e',Ir,rfl,⟨hb,hk,hv⟩,yd⟩:=hm.pc;have h':(match jg E sq kt k e.key with
   |none=>none
   |some true=>some (some (i,e.val))
   |some false=>qd E sq kt k es (i+1))=some r:=h
  clear h;split at h'
  ·cases h'
  ·rename_i hq;cases h';exact⟨some (i,e'.val),by grind [Instr.findNow,hk],.inr ⟨i,e.val,e'.val,rfl,rfl,hv⟩⟩
  ·rename_i hq;obtain⟨r',h1,h2⟩:=Of hs es Ir (i+1) r h' yd;exact⟨r',by grind [Instr.findNow,hk],h2⟩
theorem VC(hs:∀k2 gw b,jg E sq kt k k2=some b->aj β k2 gw->(Op.equal kt k' gw).run P w= .ok b w):∀(es es':a0k) (i:Nat) (r:Option (Nat×xM)),qd E sq kt k es i=some r->iC β es es'->
 ∃r',(Instr.findAsking kt k' es' i).run P w= .ok r' w/\TU β es' r r'
 |[],es',i,r,h,hm=>by
  rw[hm.qD];cases h;exact⟨none,by simp[Instr.findAsking],.inl ⟨rfl,rfl⟩⟩
 |e::es,es',i,r,h,hm=>by
  obtain⟨e',Ir,rfl,⟨hb,hk,hv⟩,yd⟩:=hm.pc;have h':(match jg E sq kt k e.key with
   |none=>none
   |some true=>some (some (i,e.val))
   |some false=>qd E sq kt k es (i+1))=some r:=h
  clear h;split at h'
  ·cases h'
  ·rename_i hq;cases h';exact⟨some (i,e'.val),by simp[Instr.findAsking,hs _ _ _ hq hk],.inr ⟨i,e.val,e'.val,rfl,rfl,hv⟩⟩
  ·rename_i hq;obtain⟨r',h1,h2⟩:=VC hs es Ir (i+1) r h' yd;exact⟨r',by simp[Instr.findAsking,hs _ _ _ hq hk,h1],h2⟩
include ok aR in
theorem GB(hk:rT E sq kt k=true)(Nr:aj β k k'){r:Option (Nat×xM)}(h:qd E sq kt k es 0=some r)(hm:iC β es es')(w:World):
 (∃r',(Instr.findKey kt k' es').run P w= .ok r' w/\TU β es' r r')/\(∀em,(Instr.checkKey em 10000 kt k').run P w= .ok () w)/\k'=k/\Instr.sameBits 10000 k k=true/\(∀k2 gw,jg E sq kt k k2=some true->aj β k2 gw->gw=k):=by
 unfold rT at hk;split at hk
 ·rename_i gU;cases k with
  |string b=>
   obtain⟨⟨a⟩⟩:=b;have iV:=gU;simp only [jg] at iV;split at iV
   ·rename_i _ _ _ _ hr;cases Nr;have hu:=(ok.ti kt _ hr).1;have hs:∀k2 gw b,jg E sq kt (.string ⟨⟨a⟩⟩) k2=some b->aj β k2 gw->Instr.sameNow .string (.string ⟨⟨a⟩⟩) gw=some b/\(b=true->gw= .string ⟨⟨a⟩⟩):=fun k2 gw b hq hv=>by
     cases k2<;>simp only [jg] at hq<;>try(cases hq;done)
     rename_i s2;obtain⟨⟨a2⟩⟩:=s2;rw[hr] at hq;simp only at hq;cases hq;cases hv;rw[yS];refine⟨?_,fun hb=>a0D⟩
     grind [Instr.sameNow,ZX]
    obtain⟨r',h1,h2⟩:=Of (fun k2 gw b hq hv=>(hs k2 gw b hq hv).1) es es' 0 r h hm;refine⟨⟨r',by simp[Instr.findKey,run_underlying hu,h1],h2⟩,fun em=> ?_,rfl,by simp only [Instr.sameBits];rw[ZX];grind,fun k2 gw hq hv=>(hs k2 gw true hq hv).2 rfl⟩;rw[show(10000:Nat)=9999+1 from rfl,Instr.checkKey];simp[run_underlying hu]
   ·cases iV
  |agg b=>
   obtain⟨a⟩:=b;have iV:=gU;simp only [jg] at iV;split at iV
   ·rename_i ks dW;have fM:k'= .agg ⟨a⟩:=by
     cases Nr with
     |agg _ p' hp h1=>obtain⟨rfl,_⟩:=JI ks a a p' p' true iV ⟨hp,h1⟩ ⟨hp,h1⟩;rfl
    subst fM;have hs:∀k2 gw b,jg E sq kt (.agg ⟨a⟩) k2=some b->aj β k2 gw->(Op.equal kt (.agg ⟨a⟩) gw).run P w= .ok b w/\(b=true->gw= .agg ⟨a⟩):=fun k2 gw b hq hv=>by
     cases k2<;>simp only [jg] at hq<;>try(cases hq;done)
     rename_i s2;obtain⟨a2⟩:=s2;rw[dW] at hq;simp only at hq;cases hv with
     |agg _ p' hp h1=>
      cases Nr with
      |agg _ q' Fy h2=>
       obtain⟨_,rfl⟩:=JI ks a a2 a p' b hq ⟨Fy,h2⟩ ⟨hp,h1⟩
       grind [WH,aR.eq]
    obtain⟨r',h1,h2⟩:=VC (P:=P) (w:=w) (fun k2 gw b hq hv=>(hs k2 gw b hq hv).1) es es' 0 r h hm;refine⟨⟨r',?_,h2⟩,fun em=>aR.key kt ks a dW iV em w,rfl,?_,fun k2 gw hq hv=>(hs k2 gw true hq hv).2 rfl⟩
    ·obtain⟨d,hd⟩:=aR.und kt ks dW;cases es' with
     |nil=>
      have:r'=none:=by simp[Instr.findAsking] at h1;exact h1.symm
      subst this;simp[Instr.findKey,run_underlying hd,Instr.findNow]
     |cons e' Ir=>
      have hsn:Instr.sameNow d (.agg ⟨a⟩) e'.key=none:=by
       cases d<;>rfl
      simp[Instr.findKey,run_underlying hd,Instr.findNow,hsn,h1]
    ·have:=WJ ks a a iV 9998;rw[show(10000:Nat)=9999+1 from rfl,Instr.sameBits]
     grind
   ·cases iV
  |_=>simp only [jg] at gU;cases gU
 ·cases hk
end
section
variable(ok:E.Ok P){sq:a0c}(aR:E.Seq P sq)(inv:Inv w0 E.G β A w)
def yU(E:au)(t:xN):a0t:=
 match E.ti.get none t with
 |some r=>bs r.rb (bs (nq r.desc) (some (.agg ⟨eY pA r.zero⟩)) (match r.zero with|[c]=>some (pA c)|_=>none)) none
 |none=>none
include ok in
theorem J4{v:xM}(h:yU E t=some v)(w:World):∃v',(zeroValue t).run P w= .ok v' w/\∀β:af,aj β v v':=by
 unfold yU at h;split at h
 ·rename_i r hr;replace h:=ax h;rcases h with⟨hz,h⟩|⟨_,h⟩
  ·obtain⟨_,i,hi,_,_,eP⟩:=ok.ti t r hr;obtain⟨z,lP,Nf⟩:=eP hz;obtain⟨e1,e2⟩:=ok.zr t r i z hr hi hz lP;have aM:(zeroValue t).run P w= .ok z w:=by simp[zeroValue,typeInfo,hi,lP]
   refine⟨z,aM,fun β=> ?_⟩;replace h:=ax h;rcases h with⟨hd,h⟩|⟨hd,h⟩
   ·cases h;have:z= .agg ⟨r.zero⟩:=by
     rw[e1];cases UJ:r.desc<;>rw[UJ] at hd<;>first|(cases hd;done)|rfl
    grind [aj.nu,AF]
   ·split at h
    ·rename_i c hc;cases h;have:z=c:=by
      rw[e1];cases UJ:r.desc<;>rw[UJ] at hd<;>first|(cases hd;done)|(simp only [hc])
     grind [Dl]
    ·cases h
  ·cases h
 ·cases h
theorem iC.set(h:iC β es es')(i:Nat)(he:Fb β e e'):iC β (es.set i e) (es'.set i e'):=by
 refine⟨by simp[h.1],fun k a b ha hb=> ?_⟩;rw[List.getElem?_set] at ha hb;by_cases hk:i=k
 ·grind
 ·rw[if_neg hk] at ha hb;exact h.2 k a b ha hb
theorem iC.snoc(h:iC β es es')(he:Fb β e e'):iC β (es++[e]) (es'++[e']):=by
 refine⟨by simp[h.1],fun k a b ha hb=> ?_⟩;by_cases hk:k<es.length
 ·rw[xw hk] at ha;rw[xw (by rw[<-h.1];exact hk)] at hb;exact h.2 k a b ha hb
 ·rw[xq a0B] at ha;rw[xq (by rw[<-h.1];omega),<-h.1] at hb
  grind
end
section
variable(ok:E.Ok P){sq:a0c}(aR:E.Seq P sq)(inv:Inv w0 E.G β A w)
theorem Dd{es:a0k}{j:Nat}{e:MapEntry}(h:es[j]? =some e)(f:MapEntry->MapEntry):(⟨es⟩:a0z).modify j f=⟨es.set j (f e)⟩:=by
 grind
theorem iC.get{es es':a0k}(h:iC β es es'){i:Nat}{e:MapEntry}(he:es[i]? =some e):∃e',es'[i]? =some e'/\Fb β e e':=by
 have hi:i<es'.length:=h.1▸(xe.1 he).1;exact⟨es'[i],by simp[hi],h.2 i e _ he (by simp[hi])⟩
end
end
end Go.Ex
