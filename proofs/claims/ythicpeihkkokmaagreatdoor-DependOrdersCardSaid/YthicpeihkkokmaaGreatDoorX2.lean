/- A verified evaluator of Go functions. -/
import Derived.Test.YthicpeihkkokmaaGreatDoorX1
import Derived.IntWalk
set_option linter.unusedVariables false
set_option linter.unusedSimpArgs false
set_option maxHeartbeats 4000000
set_option maxRecDepth 100000
namespace Go.Ex
variable{P:Program}{β:ai}{n len:Nat}{E:az}{w0 w:World}{A A':AW}{cs l:C3}{es ae:FP}{t ty tx kt:xN}{x' k k':xM}{e e':MapEntry}{tM:Nat->Option (Nat×Nat)}{ps qs:List (Nat×xM)}{d:TypeDesc}
open Go.RowKit
theorem _root_.Go.Of{p:Prop}(h:p:=by simp;omega):p:=h
noncomputable section
def ER(x:JJ)(Lw lim:Nat):Ji:=
 match x with
 |none=>some Lw
 |some (.int _ (.ofNat m))=>bs (Nat.ble m lim) (some m) none
 |some _=>none
def vV(β:ai):Option xM->Option xM->Prop
 |none,none=>True
 |some v,some v'=>aj β v v'
 |_,_=>False
section
theorem run_sliceBound(k:xO)(m y:Nat)(h:m<=y)(code:BoundsCode)(w:World):(Instr.sliceBound (.int k (m:Int)) y code).run P w= .ok m w:=by
 have h0:(0:Int)<=(m:Int)/\(m:Int)<=(y:Int):=⟨MK,MK⟩;simp[Instr.sliceBound,asIntOf,h]
theorem I1{x x':JJ}{Lw lim m:Nat}(h:ER x Lw lim=some m)(hx:vV β x x'):(x'=none/\m=Lw)\/∃k,x'=some (.int k (m:Int))/\m<=lim:=by
 unfold ER at h;split at h
 ·cases h;cases x' with
  |none=>grind
  |some v=>exact hx.elim
 ·rename_i k q;replace h:=aC h;rcases h with⟨hb,h⟩|⟨_,h⟩
  ·cases h;cases x' with
   |none=>exact hx.elim
   |some v=>cases hx;simp_all
  ·cases h
 ·cases h
def CY(n:Nat)(lo hi:JJ):Option (Nat×Nat):=
 match ER hi n n with
 |none=>none
 |some h=>match ER lo 0 h with
  |none=>none
  |some l=>some (l,h)
theorem Nh{c:Nat}{lo hi kv cb:JJ}{l h:Nat}(hb:CY n lo hi=some (l,h))(nS:vV β lo kv)(oF:vV β hi cb)(hc:n<=c)(s:Bool)(w:World):
 (Instr.sliceBounds s n c kv cb none).run P w= .ok (l,h,c) w/\l<=h/\h<=n:=by
 unfold CY at hb;split at hb
 ·cases hb
 rename_i h0 hh;split at hb
 ·cases hb
 rename_i l0 hl;cases hb;have bz7:h<=n:=by rcases I1 hh oF with⟨_,rfl⟩|⟨k,_,h⟩<;>omega
 have RA:l<=h:=by rcases I1 hl nS with⟨_,rfl⟩|⟨k,_,h⟩<;>omega
 refine⟨?_,RA,bz7⟩;rcases I1 hh oF with⟨rfl,e2⟩|⟨kh,rfl,_⟩<;>rcases I1 hl nS with⟨rfl,e4⟩|⟨kl,rfl,_⟩
 ·simp[Instr.sliceBounds,e2,e4]
 ·rw[<-e2];simp[Instr.sliceBounds,run_sliceBound _ l h RA]
 ·simp[Instr.sliceBounds,run_sliceBound _ h c MK,e4]
 ·simp[Instr.sliceBounds,run_sliceBound _ h c MK,run_sliceBound _ l h RA]
end
def Oj(A:AW)(B:Nat):Option (List xM×Nat):=
 match A.get B with
 |some ⟨.cells cs,es,_,_,_⟩=>some (cs,es)
 |_=>none
def WT(E:az)(A:AW)(t:xN)(x:xM)(lo hi:JJ):JJ:=
 match E.ti.get none t,x with
 |some ⟨.string,_,_,_,_⟩,.string ⟨⟨s⟩⟩=>
  match CY (bT s) lo hi with
  |some (l,h)=>match pE (Nat.sub h l) (ra l s) with|some r=>some (.string ⟨⟨r⟩⟩)|none=>none
  |none=>none
 |some ⟨.slice n8,_,_,_,_⟩,.iface B (.tuple ⟨[]⟩)=>
  match lo,hi with
  |none,some (.int _ (.ofNat 0))=>match A.get B,E.ti.get none n8 with
   |some ⟨.own (.chan (some (c+1))),_,_,_,_⟩,some _=>some (.iface B (.chan (some (c+1))))
   |_,_=>none
  |_,_=>none
 |some ⟨.array n n8,_,_,_,_⟩,.pointer (some ⟨B,o,none⟩)=>
  match CY n lo hi,E.ti.get none n8,Oj A B with
  |some (l,h),some r,some (cs,es)=>
   bs (Nat.beq es r.size&&Nat.ble (Nat.add o (Nat.mul n r.size)) (bT cs)) (some (.slice (some ⟨B,bs (Nat.beq l n) o (Nat.add o (Nat.mul l r.size)),none⟩) (Nat.sub h l) (Nat.sub n l))) none
  |_,_,_=>none
 |_,_=>none
def JC(E:az)(A:AW)(t:xN)(x:xM)(lo hi mx:JJ):JJ:=
 match mx with|none=>WT E A t x lo hi|some _=>none
section
variable(ok:E.Ok P)(inv:Inv w0 E.G β A w)
include inv ok
omit ok in
theorem av6{B:Nat}{es:Nat}(h:Oj A B=some (cs,es)){l:Loc}(hl:β B=some l):l.es=es/\l.d+cs.length<=l.sz:=by
 unfold Oj at h;split at h
 ·rename_i hg;cases h;obtain⟨aB,e,fz,_,_,h3,_,_,_,h7⟩:=inv.cont B _ l hg hl
  grind
 ·cases h
omit inv ok in
theorem UJ(s:EH)(l h:Nat):(⟨⟨s⟩⟩:ByteArray).extract l h=⟨⟨(s.drop l).take (h - l)⟩⟩:=by
 apply ByteArray.ext
 simp_all
theorem aD1{x v:xM}{lo hi mx kv cb LZ:JJ}(h:JC E A t x lo hi mx=some v)(hx:aj β x x')(nS:vV β lo kv)(oF:vV β hi cb)(Tp:vV β mx LZ):
 ∃v',(Instr.sliceAt t x' kv cb LZ).run P w= .ok v' w/\aj β v v':=by
 unfold JC at h;split at h;rotate_left
 ·cases h
 obtain rfl:LZ=none:=by cases LZ with|none=>rfl|some _=>exact Tp.elim
 unfold WT at h;split at h
 ·rename_i _ _ _ _ s hr;have hu:=(ok.ti t _ hr).1;split at h
  ·rename_i l hh hb;split at h
   ·rename_i r bE;cases h;cases hx;rw[eH] at hb;obtain⟨aW,hlh,hhm⟩:=Nh (P:=P) (c:=s.length) hb nS oF (xk _) false w;rw[Fp] at bE;obtain⟨rfl,_⟩:=Fm _ _ _ bE;refine⟨_,?_,.string _⟩;have aV:(⟨⟨s⟩⟩:ByteArray).size=s.length:=rfl;simp[Instr.sliceAt,run_underlying hu,Instr.slice,aV,aW,UJ]
   ·cases h
  ·cases h
 ·rename_i n8 _ _ _ _ B hr;have hu:=(ok.ti t _ hr).1;split at h
  ·rename_i kh;split at h
   ·rename_i c es ex ro ty r hg bE;cases h;cases hx with
    |raw _ n cap l hl hn ho=>
     obtain rfl:kv=none:=by cases kv with|none=>rfl|some _=>exact nS.elim
     obtain⟨x0,rfl,Bx⟩:∃x0,cb=some x0/\aj β (.int kh (.ofNat 0)) x0:=by cases cb with|none=>exact oF.elim|some x0=>exact⟨x0,rfl,oF⟩
     cases Bx;have aW:(Instr.sliceBounds true n cap none (some (.int kh (.ofNat 0))) none).run P w= .ok (0,0,cap) w:=by
      have:=run_sliceBound (P:=P) kh 0 cap (xL _)
      simp_all [Instr.sliceBounds]
     obtain⟨rows,hd,jg⟩:=inv.own B _ hg;have nq:β.d c=some (.sl rows):=by
      obtain⟨y,hy,h1⟩:=xr.1 (show(β.d c).bind (fun x=>if x.cell then some x else none)=_ from hd);split at h1<;>cases h1
      exact hy
     have iE:rows=[]:=by
      rcases jg with⟨e,_⟩|⟨l2,uf,_,e,_⟩
      ·exact e
      ·rw[ho] at e;injection e with e;injection e with _ e _;exact xE.1 e.symm
     subst iE;refine⟨.slice (some ⟨l.b,l.d,none⟩) 0 cap,?_,.own B c [] (some ⟨l.b,l.d,none⟩) cap ho (.inr ⟨l,hl,rfl⟩) nq⟩;simp only [Int.ofNat_eq_natCast,Int.natCast_zero] at aW⊢;simp[Instr.sliceAt,run_underlying hu,Instr.slice,aW,eZ ok bE,Addr.add]
   ·cases h
  ·cases h
 ·rename_i n n8 _ _ _ _ B o hr;have hu:=(ok.ti t _ hr).1;split at h
  ·rename_i l hh r cs es hb bE hw;replace h:=aC h;rcases h with⟨hc,h⟩|⟨_,h⟩
   ·rw[xf] at hc;have yM:=xb hc.1;subst yM;have aN:=xh hc.2;rw[eH] at aN;have Le:o+n*r.size<=cs.length:=aN;cases h;cases hx with
    |ptr _ _ lc eK=>
     obtain⟨aW,hlh,hhm⟩:=Nh (P:=P) (c:=n) hb nS oF (xk _) false w;obtain⟨bA0,aV⟩:=av6 inv hw eK;by_cases Tt:l=n
     ·subst Tt;have bP:Nat.beq l l=true:=by rw[pM];simp
      rw[bP,fK];refine⟨.slice (some ⟨lc.b,lc.d+o,none⟩) (hh - l) (l - l),?_,.slice B o (hh - l) (l - l) (l - l) lc eK MK (xk _) ?_⟩
      ·simp[Instr.sliceAt,run_underlying hu,Instr.sureAddr,aW,eZ ok bE]
      ·rw[Nat.sub_self,Nat.zero_mul];omega
     ·have bP:Nat.beq l n=false:=by rw[pM];simpa using Tt
      rw[bP,kz];refine⟨.slice (some ⟨lc.b,lc.d+(o+l*r.size),none⟩) (hh - l) (n - l),?_,.slice B (o+l*r.size) (hh - l) (n - l) (n - l) lc eK MK (xk _) ?_⟩
      ·simp[Instr.sliceAt,run_underlying hu,Instr.sureAddr,aW,eZ ok bE,Addr.add_lit,Nat.add_assoc,Ne.symm Tt]
      ·rw[bA0];have:l*r.size+(n - l)*r.size=n*r.size:=by rw[<-Nat.add_mul];congr 1;omega
       omega
   ·cases h
  ·cases h
 ·cases h
end
def ug(a:EH):EH->Bool:=
 List.rec (motive:=fun _=>EH->Bool) (fun b=>List.rec (motive:=fun _=>Bool) true (fun _ _ _=>false) b)
  (fun x _ ih b=>List.rec (motive:=fun _=>Bool) false (fun y t _=>bs (Nat.beq x.toNat y.toNat) (ih t) false) b) a
theorem x6(a:EH):∀b,ug a b=decide (a=b):=by
 induction a with
 |nil=>intro b;cases b<;>rfl
 |cons x a ih=>
  intro b;cases b with
  |nil=>rfl
  |cons y b=>
   show bs (Nat.beq x.toNat y.toNat) (ug a b) false=_;rw[pM];by_cases h:x=y
   ·subst h;rw[decide_eq_true rfl,fK,ih];simp
   ·have: ¬x.toNat=y.toNat:=fun e=>h (UInt8.toNat_inj.1 e)
    grind [decide_eq_false,kz]
def ib(l:Cf)(t:Nat):Option (List xO):=
 List.rec (motive:=fun _=>Option (List xO)) none (fun p _ ih=>bs (Nat.beq p.1 t) (some p.2) ih) l
def o7(a b:C3):Option Bool:=match a,b with|[],[]=>some true|_,_=>none
def nK(k:xO)(ih:List xM->List xM->Option Bool)(a b:C3):Option Bool:=
 match a,b with
 | .int j m::a,.int j' n::b=>bs (dR j k&&dR j' k) (match ih a b with|some r=>some (bs (mC m n) r false)|none=>none) none
 |_,_=>none
def eR(ks:JI):List xM->List xM->Option Bool:=
 List.rec (motive:=fun _=>List xM->List xM->Option Bool) o7 (fun k _ ih=>nK k ih) ks
structure az.Seq (E:az) (P:Program) (sq:Cf):Prop where
 eq:∀t ks a b r,ib sq t=some ks->eR ks a b=some r->∀w,(Op.equal t (.agg ⟨a⟩) (.agg ⟨b⟩)).run P w= .ok r w
 guard:∀t ks,ib sq t=some ks->P.eqGuardType P.depth t=false
 und:∀t ks,ib sq t=some ks->∃d,P.underlying t=some d
 key:∀t ks a,ib sq t=some ks->eR ks a a=some true->∀em w,(Instr.checkKey em 10000 t (.agg ⟨a⟩)).run P w= .ok () w
theorem IG:∀(ks:JI) (a b a' b':C3) (r:Bool),eR ks a b=some r->aZ β a a'->aZ β b b'->a'=a/\b'=b
 |[],a,b,a',b',r,h,ha,hb=>by
  have h':o7 a b=some r:=h;clear h;unfold o7 at h';split at h'
  ·exact⟨ha.qU,hb.qU⟩
  ·cases h'
 |k::ks,a,b,a',b',r,h,ha,hb=>by
  have h':nK k (eR ks) a b=some r:=h;clear h;unfold nK at h';split at h'
  ·rename_i j m a j' n b;replace h':=aC h';rcases h' with⟨_,h'⟩|⟨_,h'⟩
   ·split at h'
    ·rename_i r2 bE;obtain⟨v,l,rfl,hv,hl⟩:=ha.pu;obtain⟨v2,l2,rfl,dJ,aL⟩:=hb.pu;obtain⟨e1,e2⟩:=IG ks a b l l2 r2 bE hl aL;cases hv;cases dJ
     grind
    ·cases h'
   ·cases h'
  ·cases h'
def wK(E:az)(sq:Cf)(t:xN)(x y:xM):Option Bool:=
 match x,y with
 | .bool a,.bool b=>match E.ti.get none t with|some ⟨.bool,_,_,_,_⟩=>some (bs a b (not b))|_=>none
 | .pointer none,.pointer none=>match E.ti.get none t with|some ⟨.pointer _,_,_,_,_⟩=>some true|_=>none
 | .pointer (some _),.pointer none=>match E.ti.get none t with|some ⟨.pointer _,_,_,_,_⟩=>some false|_=>none
 | .pointer (some ⟨B,o,none⟩),.pointer (some ⟨B',o',none⟩)=>
  match E.ti.get none t with
  |some ⟨.pointer e,_,_,_,_⟩=>match E.ti.get none e with
   |some r=>bs (Nat.beq r.size 0) none (bs (Nat.beq B B') (some (Nat.beq o o')) none)
   |none=>none
  |_=>none
 | .slice none _ _,.slice none _ _=>match E.ti.get none t with|some ⟨.slice _,_,_,_,_⟩=>some true|_=>none
 | .slice (some _) _ _,.slice none _ _=>match E.ti.get none t with|some ⟨.slice _,_,_,_,_⟩=>some false|_=>none
 | .agg ⟨a⟩,.agg ⟨b⟩=>match ib sq t with|some ks=>eR ks a b|none=>none
 |_,_=>none
theorem Is(t:xN)(x y:xM):Op.equal t x y=Op.equalIn (9999+1) t x y:=rfl
section
variable(ok:E.Ok P){sq:Cf}(aU:E.Seq P sq)
include ok aU
theorem Z6{x y y':xM}{r:Bool}(h:wK E sq t x y=some r)(hx:aj β x x')(hy:aj β y y')(w:World):
 (Op.equal t x' y').run P w= .ok r w/\(∀op p q,(eqGuard op t p q x' y').run P w= .ok () w)/\(∀op,op= .eql\/op= .neq->binOp op t x' y'=match op with| .eql=>(do pure (.bool (<-Op.equal t x' y')))|_=>(do pure (.bool (!(<-Op.equal t x' y'))))):=by
 unfold wK at h;split at h
 ·rename_i a b;split at h<;>cases h
  rename_i hr;cases hx;cases hy;have hu:=(ok.ti t _ hr).1;refine⟨?_,fun op p q=> ?_,fun op ho=>by rcases ho with rfl|rfl<;>rfl⟩
  ·rw[Is,Op.equalIn];cases a<;>cases b<;>simp[run_underlying hu,bs]
  ·cases op<;>simp[eqGuard]
 ·split at h<;>cases h
  rename_i hr;have hu:=(ok.ti t _ hr).1;cases hx<;>cases hy<;>
  (refine⟨?_,fun op p q=> ?_,fun op ho=>by rcases ho with rfl|rfl<;>rfl⟩
   ·rw[Is,Op.equalIn];simp[run_underlying hu]
   ·cases op<;>simp[eqGuard])
 ·split at h<;>cases h
  rename_i hr;have hu:=(ok.ti t _ hr).1;cases hx<;>cases hy<;>
  (refine⟨?_,fun op p q=> ?_,fun op ho=>by rcases ho with rfl|rfl<;>rfl⟩
   ·rw[Is,Op.equalIn];simp[run_underlying hu]
   ·cases op<;>simp[eqGuard])
 ·rename_i B o B' o';split at h
  ·rename_i e _ _ _ _ hr;split at h
   ·rename_i re fX;replace h:=aC h;rcases h with⟨_,h⟩|⟨hz,h⟩
    ·cases h
    replace h:=aC h;rcases h with⟨hB,h⟩|⟨hz,h⟩
    ·have uK:=xb hB;subst uK;cases h;rw[pM] at hz;have sQ: ¬re.size=0:=by simpa using hz
     cases hx with
     |ptr _ _ l hl=>
      cases hy with
      |ptr _ _ l' fG=>
       rw[hl] at fG;cases fG;have hu:=(ok.ti t _ hr).1;refine⟨?_,fun op p q=> ?_,fun op ho=>by rcases ho with rfl|rfl<;>rfl⟩
       ·rw[Is,Op.equalIn];simp[run_underlying hu,eZ ok fX,sQ,sameAddr,pM,Bool.beq_eq_decide_eq]
       ·cases op<;>simp[eqGuard]
    ·cases h
   ·cases h
  ·cases h
 ·split at h<;>cases h
  rename_i hr;have hu:=(ok.ti t _ hr).1;cases hx<;>cases hy<;>
  (refine⟨?_,fun op p q=> ?_,fun op ho=>by rcases ho with rfl|rfl<;>rfl⟩
   ·rw[Is,Op.equalIn];simp[run_underlying hu]
   ·cases op<;>simp[eqGuard])
 ·split at h<;>cases h
  rename_i hr;have hu:=(ok.ti t _ hr).1;cases hx<;>cases hy<;>
  (refine⟨?_,fun op p q=> ?_,fun op ho=>by rcases ho with rfl|rfl<;>rfl⟩
   ·rw[Is,Op.equalIn];simp[run_underlying hu]
   ·cases op<;>simp[eqGuard])
 ·rename_i a b;split at h
  ·rename_i ks dS;cases hx with
   |agg _ p' hp h1=>
    cases hy with
    |agg _ q' hq h2=>
     obtain⟨rfl,rfl⟩:=IG ks a b p' q' r h ⟨hp,h1⟩ ⟨hq,h2⟩;refine⟨aU.eq t ks _ _ r dS h w,fun op p q=> ?_,fun op ho=>by rcases ho with rfl|rfl<;>rfl⟩;have hg:=aU.guard t ks dS;cases op<;>simp[eqGuard,program,Sem.run,hg]
  ·cases h
 ·cases h
end
def ij(E:az)(sq:Cf)(op:BinOp)(t:xN)(x y:xM):JJ:=
 match x,y with
 | .int k a,.int k' b=>A5 op k a k' b
 | .string ⟨⟨a⟩⟩,.string ⟨⟨b⟩⟩=>match op with
  | .eql=>some (.bool (ug a b))
  | .neq=>some (.bool (not (ug a b)))
  | .add=>bs (Nat.ble (Nat.add (bT a) (bT b)) 9223372036854775807) (some (.string ⟨⟨iR a b⟩⟩)) none
  |_=>none
 |x,y=>match op with
  | .eql=>(wK E sq t x y).map .bool
  | .neq=>(wK E sq t x y).map fun b=> .bool (not b)
  |_=>none
def Zm(op:BinOp):xO->Int->xO->Int->JJ:=
 match op with
 | .add=>fun k a k' b=>bs (dR k k') (some (.int k (fR k (Int.add a b)))) none
 | .sub=>fun k a k' b=>bs (dR k k') (some (.int k (fR k (Int.sub a b)))) none
 | .eql=>fun k a k' b=>bs (dR k k') (some (.bool (mC a b))) none
 | .neq=>fun k a k' b=>bs (dR k k') (some (.bool (not (mC a b)))) none
 | .lss=>fun k a k' b=>bs (dR k k') (some (.bool (kL a b))) none
 | .leq=>fun k a k' b=>bs (dR k k') (some (.bool (not (kL b a)))) none
 | .gtr=>fun k a k' b=>bs (dR k k') (some (.bool (kL b a))) none
 | .geq=>fun k a k' b=>bs (dR k k') (some (.bool (not (kL a b)))) none
 |op=>A5 op
theorem aG8(op:BinOp)(k:xO)(a:Int)(k':xO)(b:Int):Zm op k a k' b=A5 op k a k' b:=by cases op<;>rfl
abbrev am2:=xO->Int->az->Cf->BinOp->xN->JJ
def bs0(y:xM):am2:=
 C0 (ρ:=am2) (fun _ v k a E sq op t=>ij E sq op t (.int k a) v) (fun k' b _ k a _ _ op _=>Zm op k a k' b) (fun _ v k a E sq op t=>ij E sq op t (.int k a) v) (fun _ v k a E sq op t=>ij E sq op t (.int k a) v)
  (fun _ _ _ v k a E sq op t=>ij E sq op t (.int k a) v) (fun _ v k a E sq op t=>ij E sq op t (.int k a) v) (fun v k a E sq op t=>ij E sq op t (.int k a) v) y y
abbrev bs4:=az->Cf->BinOp->xN->xM->JJ
def SE(E:az)(sq:Cf)(op:BinOp)(t:xN)(x y:xM):JJ:=
 C0 (ρ:=bs4) (fun _ v E sq op t y=>ij E sq op t v y) (fun k a _ E sq op t y=>bs0 y k a E sq op t) (fun _ v E sq op t y=>ij E sq op t v y) (fun _ v E sq op t y=>ij E sq op t v y)
  (fun _ _ _ v E sq op t y=>ij E sq op t v y) (fun _ v E sq op t y=>ij E sq op t v y) (fun v E sq op t y=>ij E sq op t v y) x x E sq op t y
theorem aT5(E:az)(sq:Cf)(op:BinOp)(t:xN)(x y:xM):SE E sq op t x y=ij E sq op t x y:=by
 cases x with
 |int k a=>cases y with
  |int k' b=>exact aG8 op k a k' b
  |_=>rfl
 |_=>rfl
theorem aA1(a b:EH):(⟨⟨a⟩⟩:ByteArray)++(⟨⟨b⟩⟩:ByteArray)=⟨⟨a++b⟩⟩:=by
 apply ByteArray.ext
 simp_all
section
variable(ok:E.Ok P){sq:Cf}(aU:E.Seq P sq)
include ok aU
theorem rV{op:BinOp}{x y y' v:xM}(h:ij E sq op t x y=some v)(hx:aj β x x')(hy:aj β y y')(p q:Operand)(w:World):
 ∃v',(do eqGuard op t p q x' y';binOp op t x' y':Sem xM).run P w= .ok v' w/\aj β v v':=by
 unfold ij at h;split at h
 ·rename_i k a k' b;cases hx;cases hy;obtain⟨h1,h2⟩:=aQ8 h t P w;refine⟨v,?_,h2 β⟩;have hg:(eqGuard op t p q (.int k a) (.int k' b)).run P w= .ok () w:=by cases op<;>simp[eqGuard]
  simp[hg,h1]
 ·rename_i a b;cases hx;cases hy;have hg:(eqGuard op t p q (.string ⟨⟨a⟩⟩) (.string ⟨⟨b⟩⟩)).run P w= .ok () w:=by cases op<;>simp[eqGuard]
  split at h
  ·cases h;refine⟨_,?_,.bool _⟩;rw[x6];simp[hg,binOp,Op.stringOp,ByteArray.toList_eq,Bool.beq_eq_decide_eq]
  ·cases h;refine⟨_,?_,.bool _⟩;rw[x6];simp[hg,binOp,Op.stringOp,ByteArray.toList_eq,Bool.beq_eq_decide_eq]
  ·replace h:=aC h;rcases h with⟨hb,h⟩|⟨_,h⟩
   ·cases h;have aN:=xh hb;rw[eH,eH] at aN;have Le:a.length+b.length<=9223372036854775807:=aN;refine⟨_,?_,.string _⟩;rw[mQ];have aV:(⟨⟨a⟩⟩:ByteArray).size=a.length:=rfl;have yK:(⟨⟨b⟩⟩:ByteArray).size=b.length:=rfl;have hm:IntKind.i64.max=9223372036854775807:=rfl;have jh: ¬(9223372036854775807:Int)<(a.length:Int)+(b.length:Int):=MK
    simp[hg,binOp,Op.stringOp,aV,yK,hm,jh,aA1]
   ·cases h
  ·cases h
 ·rename_i h1 h2;split at h
  ·obtain⟨r,hr,rfl⟩:=xp.1 h;obtain⟨e1,e2,e3⟩:=Z6 ok aU hr hx hy w;refine⟨.bool r,?_,.bool _⟩
   simp_all
  ·obtain⟨r,hr,rfl⟩:=xp.1 h;obtain⟨e1,e2,e3⟩:=Z6 ok aU hr hx hy w;refine⟨.bool (!r),?_,.bool _⟩
   simp_all
  ·cases h
end
def AF(E:az)(s d:xN)(x:xM):JJ:=
 match E.ti.get none s,E.ti.get none d,x with
 |some _,some ⟨.int k,_,_,_,_⟩,.int _ n=>some (.int k (fR k n))
 |some _,some ⟨.string,_,_,_,_⟩,.string b=>some (.string b)
 |_,_,_=>none
def Rp(E:az)(A:AW)(t:xN)(x:xM):JJ:=
 match E.ti.get none t,x with
 |some ⟨.string,_,_,_,_⟩,.string ⟨⟨l⟩⟩=>some (.int .i64 (.ofNat (bT l)))
 |some ⟨.slice _,_,_,_,_⟩,.slice _ n _=>some (.int .i64 (.ofNat n))
 |_,_=>none
section
variable(ok:E.Ok P)(inv:Inv w0 E.G β A w)
include ok
theorem OT{s d:xN}{x v:xM}(h:AF E s d x=some v)(hx:aj β x x')(w:World):∃v',(convert s d x').run P w= .ok v' w/\aj β v v':=by
 unfold AF at h;split at h
 ·rename_i hs hd;cases h;cases hx;have h1:=(ok.ti s _ hs).1;have h2:=(ok.ti d _ hd).1;refine⟨_,?_,.int _ _⟩;rw[lA];simp[convert,run_underlying h1,run_underlying h2,Conv.intToInt]
 ·rename_i r _ _ _ _ _ hs hd;cases h;cases hx;have h1:=(ok.ti s _ hs).1;have h2:=(ok.ti d _ hd).1;refine⟨_,?_,.string _⟩;cases hr:r.desc<;>rw[hr] at h1<;>simp[convert,run_underlying h1,run_underlying h2]
 ·cases h
theorem JO{x v:xM}(h:Rp E A t x=some v)(hx:aj β x x'):∃v',(Builtin.len_ #[t] ty #[x']).run P w= .ok v' w/\aj β v v':=by
 unfold Rp at h;split at h
 ·rename_i hr;cases h;cases hx;have hu:=(ok.ti t _ hr).1;refine⟨_,?_,.int _ _⟩;rw[eH];simp[Builtin.len_,run_underlying hu,goInt];rfl
 ·rename_i hr;cases h;have hu:=(ok.ti t _ hr).1;cases hx<;>exact⟨_,by simp[Builtin.len_,run_underlying hu,goInt],.int _ _⟩
 ·cases h
end
def lD(l:C3):Nat->List xM->List xM:=
 List.rec (motive:=fun _=>Nat->List xM->List xM) (fun _ cs=>cs) (fun v _ ih o cs=>ih (Nat.add o 1) (Rm cs o v)) l
theorem as5(o:Nat)(cs:C3):lD [] o cs=cs:=rfl
theorem Iu(v:xM)(l:C3)(o:Nat)(cs:C3):lD (v::l) o cs=lD l (o+1) (cs.set o v):=by
 show lD l (o+1) (Rm cs o v)=_;rw[aP7]
theorem MO(l:C3):∀(o:Nat) (cs:C3),(lD l o cs).length=cs.length:=by
 induction l with
 |nil=>intros;rfl
 |cons v l ih=>grind [Iu]
theorem as6(l:C3):∀(o:Nat) (cs:C3) (i:Nat),o+l.length<=cs.length->
 (lD l o cs)[i]? =if o<=i/\i<o+l.length then l[i - o]? else cs[i]? :=by
 induction l with
 |nil=>intro o cs i _;rw[as5,if_neg (fun e=>Ns)]
 |cons v l ih=>
  intro o cs i h;rw[xi] at h;rw[Iu,ih (o+1) _ i Of,xi]
  grind
theorem as4{l':C3}(h:aZ β l l'):∀(o:Nat) {cs bB:C3},aZ β cs bB->aZ β (lD l o cs) (lD l' o bB):=by
 induction l generalizing l' with
 |nil=>intro o cs bB hc;rw[h.qU];exact hc
 |cons v l ih=>
  intro o cs bB hc;obtain⟨v',r,rfl,hv,hr⟩:=h.pu
  grind [Iu,hc.set]
def z4(v:xM):Option (List xM):=
 match v with
 | .agg ⟨l⟩=>some l
 | .chan (some (_+1))=>some [v]
 | .chan _=>none
 | .tuple _=>none
 |v=>some [v]
def one(v:xM):Bool:=
 match v with
 | .agg _=>false
 | .chan (some (_+1))=>true
 | .chan _=>false
 | .tuple _=>false
 |_=>true
theorem Fv{z:GU}{d:D}{v:xM}(h:Rd z d v)(hc:d.cell=true):v.cells=⟨[v]⟩/\v.oneCell'=true:=by
 cases h<;>first|exact⟨rfl,rfl⟩|cases hc
theorem MX{x:xM}(h:z4 x=some l)(hx:aj β x x'):∃l',x'.cells=⟨l'⟩/\aZ β l l':=by
 unfold z4 at h;split at h
 ·cases h;cases hx with
  |agg _ p' hp h1=>exact⟨p',rfl,hp,h1⟩
 ·cases h;refine⟨[x'],?_,aZ.cons hx (aZ.nil β)⟩;cases hx with
  |sym c d _ h2 hc hr=>grind [Fv]
 ·cases h
 ·cases h
 ·cases h;rename_i h1 h2 h3 h4;refine⟨[x'],?_,aZ.cons hx (aZ.nil β)⟩;cases hx<;>first|rfl|exact absurd rfl (h1 _)|exact absurd rfl (h2 _)|exact absurd rfl (h3 _)|exact absurd rfl (h4 _)
theorem Xf{β:ai}{x x':xM}(h:one x=true)(hx:aj β x x'):x'.oneCell'=true:=by
 cases hx with
 |sym c d _ h2 hc hr=>exact(Fv hr hc).2
 |_=>first|rfl|cases h
theorem OX{l':C3}(h:fb one l=true)(hl:aZ β l l'):∀v∈l',v.oneCell'=true:=by
 intro v hv;obtain⟨i,hi,rfl⟩:=List.getElem_of_mem hv;have gw:i<l.length:=by rw[hl.1];exact hi
 exact Xf (oR one l h l[i] (List.getElem_mem gw)) (hl.2 i l[i] l'[i] (by simp[gw]) (by simp[hi]))
section
variable(ok:E.Ok P)(inv:Inv w0 E.G β A w)
def jH(w0:World)(G:GP)(β:ai)(A:AW)(r:Result xM)(v:xM)(A':AW):Prop:=
 ∃β' v' w',r= .ok v' w'/\aj β' v v'/\Inv w0 G β' A' w'/\β.grow β' A.next
include inv in
theorem Vk(cs:C3)(bB:C3)(e:xN)(es:Nat)(ex:Bool)(hc:∀β',β.le β'->aZ β' cs bB):
 Inv w0 E.G (β.put A.next ⟨w.heap.size,0,es,bB.length⟩) (A.add ⟨.cells cs,es,ex,false,e⟩) (w.alloc (.cells ⟨bB⟩ e))/\β.grow (β.put A.next ⟨w.heap.size,0,es,bB.length⟩) A.next:=by
 have aN:β.le (β.put A.next ⟨w.heap.size,0,es,bB.length⟩):=inv.gy (ai.uW β A.next _);have h:=hc _ aN;refine inv.new _ _ _ rfl ⟨⟨bB⟩,e,(0,0),rfl,rfl,by simp[h.1],fun i v hv=> ?_,fun _=>rfl,fun _=>by simp[h.1],rfl,fun _=>rfl⟩
 grind [h.get]
theorem j9(β:ai)(n:Nat)(l:Loc):(β.put n l) n=some l:=by rw[ai.tL,if_pos rfl]
def tS(β:ai)(w:World)(N:Nat)(r:Result xM)(v:xM)(cs:C3)(es:Nat)(e:xN):Prop:=
 ∃bB v',r= .ok v' (w.alloc (.cells ⟨bB⟩ e))/\aZ β cs bB/\∀β':ai,β' N=some ⟨w.heap.size,0,es,bB.length⟩->aj β' v v'
include inv in
theorem tS.Lv{r:Result xM}{v:xM}{es:Nat}{e:xN}(h:tS β w A.next r v cs es e):jH w0 E.G β A r v (A.add ⟨.cells cs,es,true,false,e⟩):=by
 obtain⟨bB,v',h1,h2,h3⟩:=h;obtain⟨g1,g2⟩:=Vk inv cs bB e es true (fun β' hb=>h2.mono hb);exact⟨_,v',_,h1,h3 _ (j9 _ _ _),g1,g2⟩
def ym(E:az)(A:AW)(t:xN):Im:=
 match E.ti.get none t with
 |some r=>bs r.uj (some (.pointer (some ⟨A.next,0,none⟩),A.add ⟨.cells (fC rj r.zero),1,true,false,t⟩)) none
 |none=>none
include ok in
theorem Wz{v:xM}(h:ym E A t=some (v,A'))(β:ai)(w:World):∃cs es e,A'=A.add ⟨.cells cs,es,true,false,e⟩/\tS β w A.next ((Instr.alloc t true (.tuple #[])).run P w) v cs es e:=by
 unfold ym at h;split at h
 ·rename_i r hr;replace h:=aC h;rcases h with⟨hz,h⟩|⟨_,h⟩
  ·cases h;obtain⟨_,i,hi,_,_,fV⟩:=ok.ti t r hr;obtain⟨z,ot,L7⟩:=fV hz;refine⟨_,_,_,rfl,r.zero,.pointer (some ⟨w.heap.size,0+0,none⟩),?_,Ch β _,fun β' hN=> .ptr A.next 0 _ hN⟩;simp[Instr.alloc,zeroValue,typeInfo,hi,ot,newVar,newRow,L7]
  ·cases h
 ·cases h
include ok inv in
theorem aK2{v:xM}(h:ym E A t=some (v,A')):jH w0 E.G β A ((Instr.alloc t true (.tuple #[])).run P w) v A':=by
 obtain⟨cs,es,e,rfl,hf⟩:=Wz ok h β w;exact tS.Lv inv hf
def yR(A:AW)(t:xN)(x:xM):Im:=
 match z4 x with
 |some l=>some (.pointer (some ⟨A.next,0,none⟩),A.add ⟨.cells l,1,true,false,t⟩)
 |none=>none
theorem YP{x v:xM}(h:yR A t x=some (v,A'))(hx:aj β x x')(w:World):∃cs es e,A'=A.add ⟨.cells cs,es,true,false,e⟩/\tS β w A.next ((Instr.box t x').run P w) v cs es e:=by
 unfold yR at h;split at h
 ·rename_i l hl;cases h;obtain⟨l',hc,hr⟩:=MX hl hx;refine⟨_,_,_,rfl,l',.pointer (some ⟨w.heap.size,0+0,none⟩),?_,hr,fun β' hN=> .ptr A.next 0 _ hN⟩;simp[Instr.box,newVar,newRow,hc]
 ·cases h
include inv in
theorem bf9{x v:xM}(h:yR A t x=some (v,A'))(hx:aj β x x'):jH w0 E.G β A ((Instr.box t x').run P w) v A':=by
 obtain⟨cs,es,e,rfl,hf⟩:=YP (P:=P) h hx w;exact tS.Lv inv hf
def AB(tM:Nat->Option (Nat×Nat))(ps:List (Nat×xM)):List xM->Option (List xM):=
 List.rec (motive:=fun _=>List xM->Option (List xM)) (fun cs=>some cs)
  (fun p _ ih cs=>match tM p.1,z4 p.2 with
   |some (off,size),some l=>bs (Nat.beq (bT l) size&&Nat.ble (Nat.add off (bT l)) (bT cs)) (ih (lD l off cs)) none
   |_,_=>none) ps
def D2(β:ai):List (Nat×xM)->List (Nat×xM)->Prop
 |[],[]=>True
 |p::ps,q::qs=>p.1=q.1/\aj β p.2 q.2/\D2 β ps qs
 |_,_=>False
theorem UH(off:Nat):∀(l:C3) (k:Nat) (cs:C3),(l.zipIdx k).foldl (fun(cs:KB) (p:xM×Nat)=>cs.setIfInBounds (off+p.2) p.1) ⟨cs⟩=⟨lD l (off+k) cs⟩
 |[],_,_=>rfl
 |v::l,k,cs=>by
  rw[List.zipIdx_cons,List.foldl_cons,Iu];have:(⟨cs⟩:KB).setIfInBounds (off+k) v=⟨cs.set (off+k) v⟩:=by
   apply Array.ext';simp
  simp only [this];rw[UH off l (k+1)];rfl
theorem Jo{place':Nat->Option (Nat×Nat)}(hp:∀i p,tM i=some p->place' i=some p):∀(ps qs:List (Nat×xM)) (cs bB r:C3),AB tM ps cs=some r->D2 β ps qs->aZ β cs bB->
 ∃r',Instr.fill place' ⟨bB⟩ qs=some ⟨r'⟩/\aZ β r r'
 |[],qs,cs,bB,r,h,hq,hc=>by
  cases qs with
  |nil=>cases h;exact⟨bB,rfl,hc⟩
  |cons _ _=>exact hq.elim
 |p::ps,qs,cs,bB,r,h,hq,hc=>by
  cases qs with
  |nil=>exact hq.elim
  |cons q qs=>
   obtain⟨i,x⟩:=p;obtain⟨i',x'⟩:=q;obtain⟨hi,hx,n4⟩:=hq;have cb:i=i':=hi;subst cb;have h':(match tM i,z4 x with
    |some (off,size),some l=>bs (Nat.beq (bT l) size&&Nat.ble (Nat.add off (bT l)) (bT cs)) (AB tM ps (lD l off cs)) none
    |_,_=>none)=some r:=h
   clear h;split at h'
   ·rename_i off size l jf Tb;replace h':=aC h';rcases h' with⟨hb,h'⟩|⟨_,h'⟩
    ·rw[xf,eH,eH] at hb;have aV:l.length=size:=xb hb.1;have aN:off+l.length<=cs.length:=xh hb.2;obtain⟨l',fG,jt⟩:=MX Tb hx;obtain⟨r',cF,y6⟩:=Jo hp ps qs (lD l off cs) (lD l' off bB) r h' n4 (as4 jt off hc);refine⟨r',?_,y6⟩;have Zy:=UH off l' 0 bB;rw[Nat.add_zero] at Zy;have bF4:(⟨l'⟩:KB).zipIdx.foldl (fun(cs:KB) (p:xM×Nat)=>cs.setIfInBounds (off+p.2) p.1) ⟨bB⟩=⟨lD l' off bB⟩:=by
      rw[<-Zy,<-Array.foldl_toList];simp
     have fM:=jt.1;have jw:=hc.1;unfold Instr.fill
     grind
    ·cases h'
   ·cases h'
def JG(E:az)(fs:List Field)(i:Nat):Option (Nat×Nat):=
 match dM fs i with
 |some fd=>match E.ti.get none fd.type with|some r=>some (fd.offset,r.size)|none=>none
 |none=>none
def Ql(E:az)(fd:Field):Bool:=match E.ti.get none fd.type with|some _=>true|none=>false
def J1(E:az)(t:xN)(ps:List (Nat×xM)):JJ:=
 match E.ti.get none t with
 |some ⟨.struct ⟨fs⟩,_,_,z,true⟩=>bs (fb (Ql E) fs) (match AB (JG E fs) ps (fC rj z) with|some r=>some (.agg ⟨r⟩)|none=>none) none
 |some ⟨.array _ e,_,_,z,true⟩=>match E.ti.get none e with
  |some re=>match AB (fun i=>some (Nat.mul i re.size,re.size)) ps (fC rj z) with|some r=>some (.agg ⟨r⟩)|none=>none
  |none=>none
 |_=>none
include ok in
theorem Vf:∀(fs:List Field),(∀fd∈fs,Ql E fd=true)->∃pl,fs.mapM (fun f=>(P.info? f.type).map fun i=>(f.offset,i.size))=some pl/\∀i p,JG E fs i=some p->pl[i]? =some p
 |[],_=>⟨[],rfl,fun i p h=>by grind [JG,gg]⟩
 |fd::fs,hk=>by
  obtain⟨pl,h1,h2⟩:=Vf fs (fun x hx=>hk x (xo _ hx));have eW:=hk fd xn;unfold Ql at eW;split at eW
  ·rename_i r hr;obtain⟨_,i,hi,hs,_⟩:=ok.ti fd.type r hr;refine⟨(fd.offset,i.size)::pl,by simp_all,fun j p hj=> ?_⟩
   grind [JG,gg,List.getElem?_cons_zero,List.getElem?_cons_succ]
  ·cases eW
include ok in
theorem Od{v:xM}(h:J1 E t ps=some v)(hq:D2 β ps qs)(w:World):∃v',(Instr.build t ⟨qs⟩).run P w= .ok v' w/\aj β v v':=by
 unfold J1 at h;split at h
 ·rename_i fs _ _ z hr;obtain⟨hu,i,hi,_,_,hz⟩:=ok.ti t _ hr;obtain⟨z',mD,fV⟩:=hz rfl;replace h:=aC h;rcases h with⟨hk,h⟩|⟨_,h⟩
  ·obtain⟨pl,jf,co6⟩:=Vf (P:=P) (E:=E) ok fs (oR _ _ hk);split at h
   ·rename_i r Dd;cases h;obtain⟨r',cF,y6⟩:=Jo (β:=β) (place':=(pl.toArray[·]?)) (fun j p hj=>Ns) ps qs _ z r Dd hq (Ch β z);refine⟨.agg ⟨r'⟩,run_build w t ⟨qs⟩ ⟨r'⟩ ?_,aj.mU y6⟩
    grind [Program.built]
   ·cases h
  ·cases h
 ·rename_i n e _ _ z hr;obtain⟨hu,i,hi,_,_,hz⟩:=ok.ti t _ hr;obtain⟨z',mD,fV⟩:=hz rfl;split at h
  ·rename_i re fX;obtain⟨_,ie,jK,mG,_⟩:=ok.ti e re fX;split at h
   ·rename_i r Dd;cases h;obtain⟨r',cF,y6⟩:=Jo (β:=β) (place':=fun i=>some (i*ie.size,ie.size)) (fun j p hj=>Ns) ps qs _ z r Dd hq (Ch β z);refine⟨.agg ⟨r'⟩,run_build w t ⟨qs⟩ ⟨r'⟩ ?_,aj.mU y6⟩
    grind [Program.built]
   ·cases h
  ·cases h
 ·cases h
end
def vL{α:Type}(f:Nat->α)(n:Nat):List α->List α:=Nat.rec (motive:=fun _=>List α->List α) (fun bI=>bI) (fun m ih bI=>ih (f m::bI)) n
theorem FB{α:Type}(f:Nat->α):∀(n:Nat) (bI:List α),vL f n bI=(List.range n).map f++bI
 |0,bI=>rfl
 |n+1,bI=>by
  show vL f n (f n::bI)=_;rw[FB f n,List.range_succ];simp
section
variable(ok:E.Ok P)(inv:Inv w0 E.G β A w)
def wX(E:az)(A:AW)(t:xN)(len:Nat)(ps:List (Nat×xM)):Im:=
 match E.ti.get none t with
 |some ⟨.slice e,_,_,_,_⟩=>match E.ti.get none e with
  |some re=>bs (Nat.ble (Nat.mul len re.size) 16777216&&re.uj) (match AB (fun i=>some (Nat.mul i re.size,re.size)) ps (vL (fun _=>J) (Nat.mul len re.size) []) with
   |some r=>some (.slice (some ⟨A.next,0,none⟩) len len,A.add ⟨.cells r,re.size,true,false,e⟩)
   |none=>none) none
  |none=>none
 |_=>none
theorem UI:∀(ps:List (Nat×xM)) (cs r:C3),AB tM ps cs=some r->r.length=cs.length
 |[],cs,r,h=>by cases h;rfl
 |p::ps,cs,r,h=>by
  have h':(match tM p.1,z4 p.2 with
   |some (off,size),some l=>bs (Nat.beq (bT l) size&&Nat.ble (Nat.add off (bT l)) (bT cs)) (AB tM ps (lD l off cs)) none
   |_,_=>none)=some r:=h
  clear h;split at h'
  ·replace h':=aC h';rcases h' with⟨_,h'⟩|⟨_,h'⟩
   ·rw[UI ps _ r h',MO]
   ·cases h'
  ·cases h'
include ok in
theorem UB{v:xM}(h:wX E A t len ps=some (v,A'))(hq:D2 β ps qs)(w:World):∃cs es e,A'=A.add ⟨.cells cs,es,true,false,e⟩/\tS β w A.next ((Instr.buildSlice t len ⟨qs⟩).run P w) v cs es e:=by
 unfold wX at h;split at h
 ·rename_i e _ _ _ _ hr;split at h
  ·rename_i re fX;replace h:=aC h;rcases h with⟨hb,h⟩|⟨_,h⟩
   ·rw[xf] at hb;have aN:len*re.size<=16777216:=xh hb.1;split at h
    ·rename_i r Dd;cases h;have hu:=(ok.ti t _ hr).1;obtain⟨_,ie,jK,mG,_,hz⟩:=ok.ti e re fX;obtain⟨z,mD,fV⟩:=hz hb.2;obtain⟨C,hC⟩:∃C:C3,((Array.range (len*re.size)).map (fun x=>(if len*re.size=0 then #[] else(⟨re.zero⟩:KB))[x% (if len*re.size=0 then #[] else(⟨re.zero⟩:KB)).size]!))=⟨C⟩:=⟨_,rfl⟩;have ED:C.length=len*re.size:=by have:=congrArg Array.size hC;simpa using this.symm
     have hlg:(vL (fun _=>J) (Nat.mul len re.size) []).length=len*re.size:=by rw[FB];simp
     have hJ:aZ β (vL (fun _=>J) (Nat.mul len re.size) []) C:=by
      refine⟨by rw[hlg,ED],fun i a b ha hb=> ?_⟩;rw[FB,xj,xx] at ha;cases hq:(List.range (Nat.mul len re.size))[i]? with
      |none=>grind
      |some j=>rw[hq] at ha;cases ha;exact .jT _
     obtain⟨r',cF,y6⟩:=Jo (β:=β) (place':=fun i=>some (i*re.size,re.size)) (fun j p hj=>hj) ps qs _ C r Dd hq hJ;have aE:r'.length=len*re.size:=by rw[<-y6.1,UI ps _ r Dd,hlg]
     refine⟨_,_,_,rfl,r',.slice (some ⟨w.heap.size,0+0,none⟩) len len,?_,y6,fun β' hN=> .slice A.next 0 len len len _ hN (xk _) (xk _) (by simp[aE])⟩;have jh: ¬(2^24:Nat)<len*re.size:=MK
     by_cases h0:len*re.size=0
     ·rw[if_pos h0] at hC;simp only [h0] at hC;simp[Instr.buildSlice,run_underlying hu,eZ ok fX,jh,h0];simp at hC;rw[hC];simp[cF,newRow]
     ·rw[if_neg h0] at hC;simp[Instr.buildSlice,run_underlying hu,eZ ok fX,jh,h0,zeroValue,typeInfo,jK,mD,fV];simp at hC;rw[hC];simp[cF,newRow]
    ·cases h
   ·cases h
  ·cases h
 ·cases h
include ok inv in
theorem an5{v:xM}(h:wX E A t len ps=some (v,A'))(hq:D2 β ps qs):jH w0 E.G β A ((Instr.buildSlice t len ⟨qs⟩).run P w) v A':=by
 obtain⟨cs,es,e,rfl,hf⟩:=UB ok h hq w;exact tS.Lv inv hf
def Kj(x:xM):Ji:=match x with| .int .i64 (.ofNat n)=>some n|_=>none
def wY(E:az)(A:AW)(t:xN)(l c:xM):Im:=
 match E.ti.get none t,Kj l,Kj c with
 |some ⟨.slice e,_,_,_,_⟩,some l,some c=>match E.ti.get none e with
  |some re=>bs (re.uj&&Nat.beq (bT re.zero) re.size&&Nat.ble l c&&Nat.ble c 9223372036854775807&&Nat.ble (Nat.mul c re.bytes) 140737488355328)
   (some (.slice (some ⟨A.next,0,none⟩) l c,A.add ⟨.cells (vL (fun i=>match dM re.zero (Nat.mod i re.size) with|some v=>rj v|none=>J) (Nat.mul c re.size) []),re.size,true,false,e⟩)) none
  |none=>none
 |_,_,_=>none
theorem Wc{x:xM}(h:Kj x=some n)(hx:aj β x x'):x'= .int .i64 (n:Int):=by
 unfold Kj at h;split at h
 ·cases h;cases hx;rfl
 ·cases h
include ok in
theorem UE{l c l' c' v:xM}(h:wY E A t l c=some (v,A'))(hl:aj β l l')(hc:aj β c c')(w:World):∃cs es e,A'=A.add ⟨.cells cs,es,true,false,e⟩/\tS β w A.next ((Instr.makeSlice t l' c').run P w) v cs es e:=by
 unfold wY at h;split at h
 ·rename_i e _ _ _ _ ln cn hr Ts sZ;split at h
  ·rename_i re fX;replace h:=aC h;rcases h with⟨hb,h⟩|⟨_,h⟩
   ·simp only [xf] at hb;obtain⟨⟨⟨⟨G4,HB⟩,eK⟩,bB1⟩,wE⟩:=hb;have yH:=xb HB;rw[eH] at yH;have af0:=xh eK;have bn9:=xh bB1;have bB2:cn*re.bytes<=140737488355328:=xh wE
    cases h;have hu:=(ok.ti t _ hr).1;obtain⟨_,ie,jK,mG,BL,hz⟩:=ok.ti e re fX;obtain⟨z,mD,fV⟩:=hz G4;have e1:=Wc Ts hl;have e2:=Wc sZ hc;subst e1 e2;obtain⟨C,hC⟩:∃C:C3,((Array.range (cn*re.size)).map (fun x=>(if cn*re.size=0 then #[] else(⟨re.zero⟩:KB))[x% (if cn*re.size=0 then #[] else(⟨re.zero⟩:KB)).size]!))=⟨C⟩:=⟨_,rfl⟩;have ED:C.length=cn*re.size:=by have:=congrArg Array.size hC;simpa using this.symm
    have iS:∀β',aZ β' (vL (fun i=>match dM re.zero (Nat.mod i re.size) with|some v=>rj v|none=>J) (Nat.mul cn re.size) []) C:=fun β'=>by
     rw[FB,xj];refine⟨Ns,fun i a b ha hb=> ?_⟩;have hi:i<cn*re.size:=by rw[<-ED];exact(xe.1 hb).1
     have h0: ¬cn*re.size=0:=MK
     rw[xx,show Nat.mul cn re.size=cn*re.size from rfl,List.getElem?_range hi] at ha;simp only [Option.map_some,Option.some.injEq] at ha;have aV:0<re.size:=by
      rcases xI re.size with e|e
      ·grind
      ·exact e
     have hm:i%re.size<re.zero.length:=by rw[yH];exact Nat.mod_lt _ aV
     have TP:C[i]? =some (re.zero[i%re.size]):=by
      have h2:=congrArg (fun a:KB=>a[i]?) hC;simp only [if_neg h0] at h2;rw[Array.getElem?_map,Array.getElem?_range] at h2;rw[if_pos hi] at h2;simp only [Option.map_some,List.size_toArray,yH] at h2;rw[show C[i]? =(⟨C⟩:KB)[i]? by simp,<-h2];simp[hm]
     rw[TP] at hb;cases hb;rw[<-ha];have:dM re.zero (Nat.mod i re.size)=some re.zero[i%re.size]:=by rw[gg];show re.zero[i%re.size]? =_;simp[hm]
     grind [Fi]
    refine⟨_,_,_,rfl,C,.slice (some ⟨w.heap.size,0+0,none⟩) ln cn,?_,iS β,fun β' hN=> .slice A.next 0 ln cn cn _ hN af0 (xk _) (by simp[ED])⟩;have w1:IntKind.i64.wrap (ln:Int)=(ln:Int):=IntWalk.i64_in _ MK;have w2:IntKind.i64.wrap (cn:Int)=(cn:Int):=IntWalk.i64_in _ MK;have bP: ¬((281474976710656:Int)<(re.bytes:Int)*(cn:Int)):=by
     have h5:((cn*re.bytes:Nat):Int)<=140737488355328:=MK
     rw[Int.natCast_mul,Int.mul_comm] at h5;omega
    have oX: ¬roomBytes<cn*re.bytes:=by rw[show roomBytes=140737488355328 from rfl];omega
    have A6: ¬((cn:Int)<0):=MK
    have Gr: ¬((ln:Int)<0):=MK
    have sA: ¬((cn:Int)<(ln:Int)):=MK
    by_cases h0:cn*re.size=0
    ·rw[if_pos h0] at hC;simp[Instr.makeSlice,run_underlying hu,asInt,asIntOf,typeInfo,jK,BL,w1,w2,bP,A6,Gr,sA,askRoom,oX,eZ ok fX,h0,newRow]
     grind
    ·rw[if_neg h0] at hC;simp[Instr.makeSlice,run_underlying hu,asInt,asIntOf,typeInfo,jK,BL,w1,w2,bP,A6,Gr,sA,askRoom,oX,eZ ok fX,h0,newRow,zeroValue,mD,fV]
     grind
   ·cases h
  ·cases h
 ·cases h
include ok inv in
theorem ao5{l c l' c' v:xM}(h:wY E A t l c=some (v,A'))(hl:aj β l l')(hc:aj β c c'):jH w0 E.G β A ((Instr.makeSlice t l' c').run P w) v A':=by
 obtain⟨cs,es,e,rfl,hf⟩:=UE ok h hl hc w;exact tS.Lv inv hf
end
section
variable(ok:E.Ok P)(inv:Inv w0 E.G β A w)
theorem Ip(w:World)(g:Nat)(cs:KB):w.grownBy (w.setRow g cs) (some g):=
 ⟨rfl,rfl,rfl,NS,fun k _ hk=>setRow_other w g k cs (fun e=>hk (by rw[e]))⟩
theorem zQ(aB:KB)(o:Nat)(vs:C3)(h:o+vs.length<=aB.size)(j:Nat):
 ((aB.toList.take o++vs++aB.toList.drop (o+vs.length)).toArray)[j]? =if o<=j/\j<o+vs.length then vs[j - o]? else aB[j]? :=by
 grind
theorem UD(aB:KB)(o:Nat)(vs:C3)(h:o+vs.length<=aB.size):((aB.toList.take o++vs++aB.toList.drop (o+vs.length)).toArray).size=aB.size:=by
 simp;omega
include inv in
theorem NF{B:Nat}{es:Nat}{ex:Bool}(hg:A.get B=some ⟨.cells cs,es,ex,false,ty⟩)(hB:E.G.n<=B){l:Loc}(hl:β B=some l){o:Nat}{vs lT:C3}(hv:aZ β vs lT)(aE:o+vs.length<=cs.length)
 (h1:∀v∈lT,v.oneCell'=true):∃w',(storeCells ⟨l.b,l.d+o,none⟩ lT 0).run P w= .ok () w'/\Inv w0 E.G β (A.put B (some ⟨.cells (lD vs o cs),es,ex,false,ty⟩)) w':=by
 obtain⟨aB,e,fz,k1,k2,k3,k4,k5,k6,k7⟩:=inv.cont B _ l hg hl;obtain rfl:=k5 rfl;have lX:=hv.1;have jF:l.d+o+0+lT.length<=aB.size:=MK
 have bk:=run_storeCells_at (P:=P) l.b (l.d+o) e lT 0 aB w k1 jF h1;rw[Nat.add_zero] at bk;refine⟨_,bk,inv.write B l _ _ hg hl hB (Ip w l.b _) NS ?_⟩;rw[setRow_heap w l.b aB _ e (0,0) k1];refine⟨_,e,(0,0),rfl,Ns,by rw[MO];exact k3,fun i v hi=> ?_,fun _=>rfl,fun hx=>by grind [MO],k7⟩;rw[as6 vs o cs i aE] at hi;rw[zQ _ _ _ MK];by_cases BD:o<=i/\i<o+vs.length
 ·rw[if_pos BD] at hi;rw[if_pos MK,show l.d+i - (l.d+o)=i - o by omega];exact hv.get hi
 grind
def x9(E:az)(A:AW)(t:xN)(a x:xM):Option AW:=
 match a with
 | .pointer (some ⟨B,o,none⟩)=>
  match E.ti.get none t,z4 x,A.get B with
  |some r,some l,some ⟨.cells cs,es,ex,false,ty⟩=>
   bs (fb one l&&Nat.beq (bT l) r.size&&Nat.ble E.G.n B&&Nat.ble (Nat.add o (bT l)) (bT cs)) (some (A.put B (some ⟨.cells (lD l o cs),es,ex,false,ty⟩))) none
  |_,_,_=>none
 |_=>none
include ok inv in
theorem aC2{a a' x:xM}(h:x9 E A t a x=some A')(ha:aj β a a')(hx:aj β x x'):∃w',(Instr.storeAt t a' x').run P w= .ok () w'/\Inv w0 E.G β A' w':=by
 unfold x9 at h;split at h
 ·rename_i B o;split at h
  ·rename_i r l cs es ex ty hr Tb hg;replace h:=aC h;rcases h with⟨hb,h⟩|⟨_,h⟩
   ·simp only [xf,eH] at hb;obtain⟨⟨⟨ua,aV⟩,hG⟩,aN⟩:=hb;have G5:=xb aV;have jL:=xh hG;have Le:o+l.length<=cs.length:=xh aN;cases h;cases ha with
    |ptr _ _ lc eK=>
     obtain⟨l',fG,jt⟩:=MX Tb hx;obtain⟨w',aW,cM⟩:=NF (P:=P) inv hg jL eK jt Le (OX ua jt);refine⟨w',?_,cM⟩;have h5:l'.length=r.size:=by rw[<-jt.1,G5]
     simp[Instr.storeAt,Instr.sureAddr,storeVar,eZ ok hr,fG,h5,aW]
   ·cases h
  ·cases h
 ·cases h
theorem Inv.QW(h:Inv w0 E.G β A w){w':World}(l:Loc)(blk:aG)(fM:l.b<w.heap.size)(aL:w0.heap.size<=l.b\/β.x l.b)(hz:β.z l.b=none)(S8:β.y l.b=none)(jh:∀C lc,β C=some lc->lc.b=l.b->A.get C=none)
 (hw:w.grownBy w' (some l.b)) (aV:w'.heap.size=w.heap.size) (hb:gB (β.put A.next l) l blk w'.heap[l.b]?) (hp:vB blk:=by intro c h;cases h):
 Inv w0 E.G (β.put A.next l) (A.add blk) w'/\β.grow (β.put A.next l) A.next:=by
 have aN:β.le (β.put A.next l):=h.gy (ai.uW β A.next l);have hn:A.get A.next=none:=h.du _ (xk _);have jm:∀B lb,β.put A.next l B=some lb->(B=A.next/\lb=l)\/(B≠A.next/\β B=some lb):=fun B lb e=>by
  rw[ai.tL] at e
  grind
 have gX:∀B,B≠A.next->(A.add blk).get B=A.get B:=fun B hB=>by
  grind [absurd,A.mR]
 refine⟨⟨h.below.grown hw aL,fun B lb e=> ?_,fun B hB=> ?_,fun B lb e=> ?_,fun B B' lb Bs e e' eG ha kR=> ?_,fun B k lb hk e=> ?_,fun g hg=> ?_,
  fun b cs e=>Nw hw (fun e2=>by have e':β.z b=some cs:=e;grind) (h.dB b cs e),fun B lb kb hG e ha hs=> ?_,h.dX,fun B k hk=> ?_,fun B v e=>Nat.lt_succ_of_lt (h.iG B v e),h.lay,h.xg,h.jM,h.zo,fun b hh hy=> ?_⟩,ai.uW β A.next l⟩
 ·show B<A.next+1;rcases jm B lb e with⟨e1,_⟩|⟨_,e⟩
  ·omega
  ·exact Nat.lt_succ_of_lt (h.ft B lb e)
 ·have uK:A.next+1<=B:=hB
  grind [h.du]
 ·rw[aV];rcases jm B lb e with⟨_,e2⟩|⟨_,e⟩
  ·rw[e2];exact⟨fM,.inr aL⟩
  ·exact h.loc B lb e
 ·grind [eG.symm,h.inj]
 ·rcases jm B lb e with⟨h1,h2⟩|⟨hB,f⟩
  ·rw[h1] at hk;rw[h2];rcases A.mR blk hn A.next with⟨e2,_⟩|e2
   ·grind
   grind
  ·rw[gX B hB] at hk;have bo:lb.b≠l.b:=fun e3=>Ns
   rw[hw.block lb.b (h.loc B lb f).1 (fun e3=>bo (xC e3))];exact(h.cont B k lb hk f).mono aN
 ·grind [h.jn,aN.f]
 ·rcases jm B lb e with⟨_,h2⟩|⟨hB,f⟩
  ·rw[h2];exact hz
  ·rw[gX B hB] at ha;exact h.sep B lb kb hG f ha hs
 ·rcases A.mR blk hn B with⟨e2,_⟩|e2
  ·grind [hk,hp.ok]
  ·rw[e2] at hk;exact(h.own B k hk).mono aN
 ·obtain⟨y1,y2,y3,y4⟩:=h.dP b hh hy;have bo:b≠l.b:=fun e=>by
   have hy':β.y b=some hh:=hy
   grind
  refine⟨by grind [Array.getElem?_eq_some_iff,xC,hw.block],y2,y3,fun B lb e ha=> ?_⟩
  grind
def Q2(A:AW)(size:Nat)(x:xM):Option (Nat×List xM):=
 match x with
 | .slice none 0 0=>some (0,[])
 | .slice (some ⟨B,o,none⟩) n _=>bs (Nat.beq n 0) (some (0,[])) (match jP A B with
  |some cs=>match pE (Nat.mul n size) (ra o cs) with|some l=>bs (fb one l) (some (n,l)) none|none=>none
  |none=>none)
 | .string ⟨⟨l⟩⟩=>bs (Nat.beq size 1) (some (bT l,fC (fun b=>Value.int .u8 (.ofNat b.toNat)) l)) none
 |_=>none
def Oq(d:TypeDesc)(x:xM):Bool:=
 match d,x with
 | .slice _,.slice _ _ _=>true
 | .string,.string _=>true
 |_,_=>false
include inv in
theorem aV5{size:Nat}(hu:P.underlying tx=some d){x:xM}(h:Q2 A size x=some (n,l))(hk:Oq d x=true)(hx:aj β x x'):∃l',aZ β l l'/\Src P size tx x' n l' w:=by
 unfold Q2 at h;split at h
 ·cases h;cases hx;cases d<;>first|(cases hk;done)|exact⟨[],aZ.nil β,Src.ofNil w hu 0⟩
 ·rename_i B o n' c;have fW:∃e,d= .slice e:=by cases d<;>first|(cases hk;done)|grind
  obtain⟨e,rfl⟩:=fW;replace h:=aC h;rcases h with⟨h0,h⟩|⟨h0,h⟩
  ·have wG:=xb h0;subst wG;cases h;cases hx with
   |slice _ _ _ _ c' lc eK hn hc he=>exact⟨[],aZ.nil β,Src.ofSlice w hu _ 0 c' [] NS (fun j u hu=>by simp at hu) (fun u hu=>by cases hu)⟩
   |empty _ a' c'=>exact⟨[],aZ.nil β,Src.ofSlice w hu _ 0 c' [] NS (fun j u hu=>by simp at hu) (fun u hu=>by cases hu)⟩
  ·split at h
   ·rename_i cs df;split at h
    ·rename_i q hq;replace h:=aC h;rcases h with⟨ua,h⟩|⟨_,h⟩
     ·cases h;cases hx with
      |slice _ _ _ _ c' lc eK hn hc he=>
       obtain⟨l',fG,aE,ao⟩:=Cc inv df eK o _ l hq;exact⟨l',fG,Src.ofSlice w hu _ n c' l' (by rw[<-fG.1,aE];rfl) (fun j u hu=>by rw[Addr.add_mid];exact ao j u hu) (OX ua fG)⟩
      |empty _ a' c'=>cases h0
     ·cases h
    ·cases h
   ·cases h
 ·rename_i s;have fW:d= .string:=by cases d<;>first|(cases hk;done)|rfl
  subst fW;replace h:=aC h;rcases h with⟨h0,h⟩|⟨_,h⟩
  ·have wG:=xb h0;subst wG;cases h;cases hx;refine⟨byteCells ⟨⟨s⟩⟩,?_,?_⟩
   ·have:fC (fun b:UInt8=>Value.int .u8 (.ofNat b.toNat)) s=byteCells ⟨⟨s⟩⟩:=by rw[qc];rfl
    rw[this];refine⟨rfl,fun i v v' a b=> ?_⟩;rw[a] at b;cases b;unfold byteCells at a;rw[xx] at a;obtain⟨q,_,rfl⟩:=xp.1 a;exact .int _ _
   ·have:=Src.ofString (P:=P) w hu ⟨⟨s⟩⟩;rw[eH];exact this
  ·cases h
 ·cases h
end
section
variable(ok:E.Ok P)(inv:Inv w0 E.G β A w)
def PM(E:az)(t tx:xN)(x:xM):Option (Row×xN):=
 match E.ti.get none t,E.ti.get none tx with
 |some ⟨.slice e,_,_,_,_⟩,some rx=>match E.ti.get none e with
  |some re=>bs (re.uj&&Nat.beq (bT re.zero) re.size&&Nat.ble 1 re.size&&Oq rx.desc x) (some (re,e)) none
  |none=>none
 |_,_=>none
def Kw(ab9 bytes:Nat):Bool:=Nat.ble ab9 9223372036854775807&&Nat.ble (Nat.mul ab9 bytes) 140737488355328
def FL(E:az)(A:AW)(t tx:xN)(s x:xM):Im:=
 match PM E t tx x with
 |none=>none
 |some (re,e)=>match Q2 A re.size x with
  |none=>none
  |some (n,l)=>
   match s with
   | .slice none 0 0=>bs (Nat.beq n 0) (some (.slice none 0 0,A)) (bs (Kw n re.bytes) (some (.slice (some ⟨A.next,0,none⟩) n n,A.add ⟨.cells l,re.size,false,false,e⟩)) none)
   | .slice (some ⟨B,o,none⟩) sl c=>
    bs (Nat.beq n 0) (some (.slice (some ⟨B,o,none⟩) sl c,A))
    (bs (Nat.beq B Dp) none
    (match A.get B with
    |some ⟨.cells cs,es,ex,ro,ty⟩=>
     bs (Nat.beq es re.size&&Nat.ble sl c) (bs (Nat.ble (Nat.add sl n) c)
      (bs (not ro&&Nat.ble E.G.n B&&Nat.ble (Nat.add (Nat.add o (Nat.mul sl re.size)) (bT l)) (bT cs)) (some (.slice (some ⟨B,o,none⟩) (Nat.add sl n) c,A.put B (some ⟨.cells (lD l (Nat.add o (Nat.mul sl re.size)) cs),es,ex,false,ty⟩))) none)
      (match pE (Nat.mul sl re.size) (ra o cs) with
      |some eJ=>bs (Kw (Nat.add sl n) re.bytes)
       (bs (ex&&Nat.beq (Nat.add o (Nat.mul c re.size)) (bT cs)) (some (.slice (some ⟨A.next,0,none⟩) (Nat.add sl n) (Nat.add sl n),A.add ⟨.cells (iR eJ l),re.size,false,false,e⟩))
        (bs (not ro&&Nat.ble E.G.n B&&Nat.beq ty e) (some (.slice (some ⟨A.next,0,none⟩) (Nat.add sl n) (Nat.add sl n),(A.put B none).add ⟨.cells (iR eJ l),re.size,false,false,e⟩)) none)) none
      |none=>none)) none
    |_=>none))
   |_=>none
include inv in
theorem NX(cs bB rest:C3)(e:xN)(es:Nat)(aB:KB)(Lh:aB.toList=bB++rest)(hc:∀β',β.le β'->aZ β' cs bB):
 Inv w0 E.G (β.put A.next ⟨w.heap.size,0,es,aB.size⟩) (A.add ⟨.cells cs,es,false,false,e⟩) (w.drew.alloc (.cells aB e))/\β.grow (β.put A.next ⟨w.heap.size,0,es,aB.size⟩) A.next:=by
 have aN:β.le (β.put A.next ⟨w.heap.size,0,es,aB.size⟩):=inv.gy (ai.uW β A.next _);have h:=hc _ aN;have aV:aB.size=bB.length+rest.length:=by rw[<-Array.length_toList,Lh];simp
 refine(inv.drew (w.drawn+1)).new _ _ _ rfl ⟨aB,e,(0,0),rfl,rfl,by simp[h.1,aV],fun i v hv=> ?_,fun _=>rfl,(fun h=>by cases h),rfl,fun _=>rfl⟩;obtain⟨v',ee,hr⟩:=h.get hv;refine⟨v',?_,hr⟩;rw[<-Array.getElem?_toList,Lh,Nat.zero_add,xw (xe.1 ee).1];exact ee
include ok in
theorem aA3{x:xM}{re:Row}{e:xN}(h:PM E t tx x=some (re,e)):∃d ie z,P.underlying t=some (.slice e)/\P.underlying tx=some d/\Oq d x=true/\E.ti.get none e=some re/\P.info? e=some ie/\ie.size=re.size/\ie.bytes=re.bytes/\
 ie.zero=some z/\z.cells.size=re.size/\1<=re.size:=by
 unfold PM at h;split at h
 ·rename_i e0 _ _ _ _ rx hr hrx;split at h
  ·rename_i r fX;replace h:=aC h;rcases h with⟨hb,h⟩|⟨_,h⟩
   ·cases h;simp only [xf,eH] at hb;obtain⟨⟨⟨hz,hl⟩,h1⟩,hk⟩:=hb;obtain⟨_,ie,jK,hs,wE,fV⟩:=ok.ti e re fX;obtain⟨z,ot,L7⟩:=fV hz;exact⟨rx.desc,ie,z,(ok.ti t _ hr).1,(ok.ti tx _ hrx).1,hk,fX,jK,hs,wE,ot,by simp_all,xh h1⟩
   ·cases h
  ·cases h
 ·cases h
theorem EX{e:xN}{i:TypeInfo}(ht:P.underlying t=some (.slice e))(hi:P.info? e=some i){x:xM}{dI:C3}(hs:Src P i.size tx x 0 dI w)(pO:Option Addr)(sl c:Nat)(aN:sl<=c):
 (Builtin.append_ #[t,tx] ty #[.slice pO sl c,x]).run P w= .ok (.slice pO sl c) w:=by
 have hn:dI=[]:=xA (by simpa using hs.newsLen);subst hn;have hc:=hs.cells;cases pO with
 |none=>rcases hs.kind with⟨e',hk⟩|hk<;>simp[Builtin.append_,run_underlying ht,run_underlying hk,sizeOf,typeInfo,hi,hs.len,aN,hc]
 |some a=>rcases hs.kind with⟨e',hk⟩|hk<;>simp[Builtin.append_,run_underlying ht,run_underlying hk,sizeOf,typeInfo,hi,hs.len,aN,hc,storeCells]
theorem MM(z:KB)(n:Nat):(Builtin.zeroCells z n).size=n*z.size:=by simp[Builtin.zeroCells]
include ok inv in
theorem aA2{s s' x v:xM}(h:FL E A t tx s x=some (v,A'))(hs:aj β s s')(hx:aj β x x'):jH w0 E.G β A ((Builtin.append_ #[t,tx] ty #[s',x']).run P w) v A':=by
 unfold FL at h;split at h
 ·cases h
 rename_i re e fX;obtain⟨d,ie,z,hu,hux,hk,hte,jK,mG,wE,hz,L6,h1⟩:=aA3 ok fX;split at h
 ·cases h
 rename_i n l yL;obtain⟨l',jt,src⟩:=aV5 (P:=P) inv hux yL hk hx;rw[<-mG] at src;have lm:l'.length=n*re.size:=by rw[src.newsLen,mG]
 split at h
 ·
  cases hs;replace h:=aC h;rcases h with⟨h0,h⟩|⟨h0,h⟩
  ·have wG:=xb h0;subst wG;cases h;exact⟨β,_,w,EX hu jK src none 0 0 (xk _),.yb,inv,ai.dg _ _⟩
  ·replace h:=aC h;rcases h with⟨hf,h⟩|⟨_,h⟩
   ·unfold Kw at hf;rw[xf] at hf;have f1:=xh hf.1;have f2:n*re.bytes<=140737488355328:=xh hf.2;cases h;have wG: ¬n=0:=fun e=>by subst e;cases h0
    have aW:=run_append_grow_src (P:=P) w t tx ty e ie z hu jK hz none 0 0 [] (run_firstCells_none w.drew ie.size 0 0 0) x' n l' src MK MK (growslice_fits MK (by rw[wE,Nat.zero_add];exact f2));have jv:=grownCap_ge w (0+n) 0 e;obtain⟨g1,g2⟩:=NX inv l l' (Builtin.zeroCells z.cells (grownCap w (0+n) 0 e - (0+n))).toList e re.size (([]++l').toArray++Builtin.zeroCells z.cells (grownCap w (0+n) 0 e - (0+n))) NS (fun β' hb=>jt.mono hb);refine⟨_,_,_,aW,?_,g1,g2⟩;have hval:=aj.slice (β:=β.put A.next ⟨w.heap.size,0,re.size,(([]++l').toArray++Builtin.zeroCells z.cells (grownCap w (0+n) 0 e - (0+n))).size⟩) A.next 0 n n (grownCap w (0+n) 0 e) _ (j9 _ _ _) (xk _) MK (by
     simp only [List.nil_append,Array.size_append,List.size_toArray,MM,L6,lm,Nat.zero_add,<-Nat.add_mul];apply xD;omega)
    simpa using hval
   ·cases h
 ·rename_i B o sl c;replace h:=aC h;rcases h with⟨h0,h⟩|⟨h0,h⟩
  ·have wG:=xb h0;subst wG;cases h;cases hs with
   |slice _ _ _ _ c' lc eK hn hc he=>exact⟨β,_,w,EX hu jK src _ sl c' MK,.slice B o sl c c' lc eK hn hc he,inv,ai.dg _ _⟩
   |empty _ a' c'=>exact⟨β,_,w,EX hu jK src _ 0 c' MK,.empty o a' c',inv,ai.dg _ _⟩
  have wG: ¬n=0:=fun e=>by subst e;cases h0
  replace h:=aC h;rcases h with⟨_,h⟩|⟨ht,h⟩
  ·cases h
  split at h
  ·rename_i cs es ex ro LO hg;replace h:=aC h;rcases h with⟨hb,h⟩|⟨_,h⟩;rotate_left
   ·cases h
   rw[xf] at hb;have dU:=xb hb.1;subst dU;have co3:=xh hb.2;obtain⟨c',lc,eK,hn,hc,he,rfl⟩:∃c' lc,β B=some lc/\sl<=c/\c<=c'/\lc.d+o+c'*lc.es<=lc.sz/\s'= .slice (some ⟨lc.b,lc.d+o,none⟩) sl c':=by
    cases hs with
    |slice _ _ _ _ c' lc eK hn hc he=>exact⟨c',lc,eK,hn,hc,he,rfl⟩
    |empty=>cases ht
   obtain⟨aB,eb,fz,k1,k2,k3,k4,k5,k6,k7⟩:=inv.cont B _ lc hg eK;have S4:lc.es=re.size:=k7.1;have k8':LO≠jN->eb=LO:=k7.2;replace h:=aC h;rcases h with⟨oX,h⟩|⟨oX,h⟩
   ·
    have Yz:sl+n<=c:=xh oX;replace h:=aC h;rcases h with⟨bP,h⟩|⟨_,h⟩;rotate_left
    ·cases h
    simp only [xf,Bool.not_eq_true',eH] at bP;obtain⟨⟨kN,hG⟩,jF⟩:=bP;subst kN;have jL:=xh hG;have bn6:o+sl*re.size+l.length<=cs.length:=xh jF;cases h;obtain rfl:=k5 rfl;obtain⟨w',bk,cM⟩:=NF (P:=P) inv hg jL eK jt bn6 src.one;have fM:=jt.1;have iP:∀j,j<l'.length->(w.cell? ⟨lc.b,lc.d+o+sl*ie.size+j,none⟩).isSome=true:=fun j hj=>by
     rw[cell_of_row w lc.b _ aB eb (0,0) k1];have:lc.d+o+sl*ie.size+j<aB.size:=by rw[mG];omega
     simp[this]
    have nj:∀j,j<l'.length->w.frozen? ⟨lc.b,lc.d+o+sl*ie.size+j,none⟩=false:=fun j _=>by simp[World.frozen?,k1]
    have aW:=run_append_room_src (P:=P) w t tx ty e ie hu jK lc.b (lc.d+o) sl c' x' n l' src MK iP nj;have rm:=run_storeCells_cells (P:=P) lc.b (lc.d+o+sl*ie.size) l' 0 w (by simpa using iP) (by simpa using nj) src.one;rw[Nat.add_zero] at rm;rw[<-Nat.add_assoc,<-mG,rm] at bk;cases bk;exact⟨β,_,_,aW,.slice B o (sl+n) c c' lc eK Yz hc he,cM,ai.dg _ _⟩
   ·have Yz: ¬sl+n<=c:=fun e=>by rw[show Nat.add sl n=sl+n from rfl,Nat.ble_eq_true_of_le e] at oX;cases oX
    split at h;rotate_left
    ·cases h
    rename_i eJ holds;obtain⟨yq,uB,Zq,ae3⟩:=Cc inv (show jP A B=some cs by unfold jP;rw[hg]) eK o _ eJ holds;have YC:yq.length=sl*re.size:=by rw[<-uB.1,Zq];rfl
    replace h:=aC h;rcases h with⟨hf,h⟩|⟨_,h⟩;rotate_left
    ·cases h
    unfold Kw at hf;rw[xf] at hf;have f1:sl+n<=9223372036854775807:=xh hf.1;have f2:(sl+n)*re.bytes<=140737488355328:=xh hf.2;have Gv:∀(A1:AW),A1.next=A.next->Inv w0 E.G β A1 w->c'<sl+n->jH w0 E.G β A ((Builtin.append_ #[t,tx] ty #[.slice (some ⟨lc.b,lc.d+o,none⟩) sl c',x']).run P w) (.slice (some ⟨A.next,0,none⟩) (sl+n) (sl+n)) (A1.add ⟨.cells (iR eJ l),re.size,false,false,e⟩):=fun A1 BP mo bm=>by
     have kE:(Builtin.firstCells ie.size sl (.slice (some ⟨lc.b,lc.d+o,none⟩) sl c')).run P w.drew= .ok yq.toArray w.drew:=
      run_firstCells_some w.drew ie.size sl _ sl c' yq (by rw[mG];exact YC) (fun j u hu=>by rw[Addr.add_mid];exact ae3 j u hu)
     have aW:=run_append_grow_src (P:=P) w t tx ty e ie z hu jK hz (some ⟨lc.b,lc.d+o,none⟩) sl c' yq kE x' n l' src bm MK (growslice_fits bm (by rw[wE];exact f2));have jv:=grownCap_ge w (sl+n) c' e;obtain⟨g1,g2⟩:=NX mo (iR eJ l) (yq++l') (Builtin.zeroCells z.cells (grownCap w (sl+n) c' e - (sl+n))).toList e re.size ((yq++l').toArray++Builtin.zeroCells z.cells (grownCap w (sl+n) c' e - (sl+n))) NS (fun β' hb=>by rw[mQ];exact(uB.append jt).mono hb);rw[BP] at g1 g2;refine⟨_,_,_,aW,?_,g1,g2⟩;have hval:=aj.slice (β:=β.put A.next ⟨w.heap.size,0,re.size,((yq++l').toArray++Builtin.zeroCells z.cells (grownCap w (sl+n) c' e - (sl+n))).size⟩) A.next 0 (sl+n) (sl+n) (grownCap w (sl+n) c' e) _ (j9 _ _ _) (xk _) jv (by
      simp only [Array.size_append,List.size_toArray,xa,MM,L6,lm,YC,Nat.zero_add,<-Nat.add_mul];apply xD;omega)
     simpa using hval
    replace h:=aC h;rcases h with⟨HZ,h⟩|⟨_,h⟩
    ·
     rw[xf,eH] at HZ;have uc:o+c*re.size=cs.length:=xb HZ.2;cases h;refine Gv A rfl inv ?_;have h6:=(k6 HZ.1).2;rw[S4] at he;have h8:c'*re.size<=c*re.size:=MK
     have h9:c'<=c:=Nat.le_of_mul_le_mul_right h8 MK;omega
    ·replace h:=aC h;rcases h with⟨p6,h⟩|⟨_,h⟩;rotate_left
     ·cases h
     simp only [xf,Bool.not_eq_true'] at p6;obtain⟨⟨kN,hG⟩,El⟩:=p6;subst kN;have ac8:=xb El;have jL:=xh hG;obtain rfl:=k5 rfl;cases h;have mo:=inv.kill B;by_cases bm:c'<sl+n
     ·exact Gv (A.put B none) rfl mo bm
     ·
      have fM:=jt.1;have DK:(sl+n)*re.size<=c'*re.size:=xD _ MK;rw[Nat.add_mul] at DK;rw[S4] at he;have iP:∀j,j<l'.length->(w.cell? ⟨lc.b,lc.d+o+sl*ie.size+j,none⟩).isSome=true:=fun j hj=>by
       rw[cell_of_row w lc.b _ aB eb (0,0) k1];have:lc.d+o+sl*ie.size+j<aB.size:=by rw[mG];omega
       simp[this]
      have nj:∀j,j<l'.length->w.frozen? ⟨lc.b,lc.d+o+sl*ie.size+j,none⟩=false:=fun j _=>by simp[World.frozen?,k1]
      have aW:=run_append_room_src (P:=P) w t tx ty e ie hu jK lc.b (lc.d+o) sl c' x' n l' src MK iP nj;have rm:=run_storeCells_cells (P:=P) lc.b (lc.d+o+sl*ie.size) l' 0 w (by simpa using iP) (by simpa using nj) src.one;rw[Nat.add_zero] at rm;have bk:=run_storeCells_at (P:=P) lc.b (lc.d+o+sl*ie.size) eb l' 0 aB w k1 (by rw[mG];omega) src.one;rw[Nat.add_zero,rm] at bk;have Ru:=(Result.ok.inj bk).2;rw[Ru] at aW;obtain⟨bz1,bz0⟩:=inv.loc B lc eK;have Dc:lc.d+o+sl*ie.size+l'.length<=aB.size:=by rw[mG];omega
      obtain⟨g1,g2⟩:=Inv.QW (E:=E) mo (w':=w.setRow lc.b (aB.toList.take (lc.d+o+sl*ie.size)++l'++aB.toList.drop (lc.d+o+sl*ie.size+l'.length)).toArray) ⟨lc.b,lc.d+o,re.size,lc.sz⟩ ⟨.cells (iR eJ l),re.size,false,false,e⟩ bz1 (bz0.resolve_left MK) (inv.sep B lc _ MK eK hg rfl)
       (show β.y lc.b=none from inv.FN eK (by rw[hg];rfl)) (fun C lC hC eG=>by
        rcases A.gd B none C with⟨e1,_⟩|⟨e1,_⟩|⟨e1,bo⟩
        ·exact e1
        ·exact e1
        ·rw[e1];cases Mn:A.get C with
         |none=>rfl
         |some kk=>exact absurd (inv.inj C B lC lc hC eK eG (by rw[Mn];rfl) (by rw[hg];rfl)) bo)
       (Ip w lc.b _) NS (by
        rw[setRow_heap w lc.b aB _ eb (0,0) k1];have by8:β.le (β.put (A.put B none).next ⟨lc.b,lc.d+o,re.size,lc.sz⟩):=mo.gy (ai.uW β _ _);refine⟨_,eb,(0,0),rfl,by rw[UD _ _ _ Dc];exact k2,?_,fun i v hv=> ?_,fun _=>rfl,(fun h=>by cases h),rfl,fun bo=>(k8' (by rw[ac8];exact bo)).trans ac8⟩
        ·show lc.d+o+(iR eJ l).length<=lc.sz;rw[mQ,xa,Zq,fM,lm];show lc.d+o+(sl*re.size+n*re.size)<=lc.sz;omega
        ·have dJ:(eJ++l)[i]? =some v:=by rw[<-mQ];exact hv
         obtain⟨v',ee,iS⟩:=(uB.append jt).get dJ;refine⟨v',?_,iS.mono by8⟩;show(List.toArray _)[lc.d+o+i]? =some v';rw[zQ _ _ _ Dc];by_cases hi:i<sl*re.size
         ·rw[if_neg (by rw[mG];omega)];rw[xw MK] at ee;have:=ae3 i v' ee;rw[cell_of_row w lc.b _ aB eb (0,0) k1] at this;exact this
         ·rw[xq MK] at ee;have Rz:=(xe.1 ee).1;rw[if_pos (by rw[mG];omega),show lc.d+o+i - (lc.d+o+sl*ie.size)=i - yq.length by rw[mG];omega];exact ee)
      have kP:(A.put B none).next=A.next:=rfl;rw[kP] at g1 g2;refine⟨_,_,_,aW,?_,g1,g2⟩;have hval:=aj.slice (β:=β.put A.next ⟨lc.b,lc.d+o,re.size,lc.sz⟩) A.next 0 (sl+n) (sl+n) c' _ (j9 _ _ _) (xk _) MK (by simpa using he);simpa using hval
  ·cases h
 ·cases h
end
theorem YR(a b:EH):((⟨⟨a⟩⟩:ByteArray)==⟨⟨b⟩⟩)=decide (a=b):=by
 show(BEq.beq (⟨a⟩:Array UInt8) ⟨b⟩)=_
 grind
theorem Vo:∀(ks:JI) (a b:C3),eR ks a b=some true->a=b
 |[],a,b,h=>by
  have h':o7 a b=some true:=h
  grind [o7]
 |k::ks,a,b,h=>by
  have h':nK k (eR ks) a b=some true:=h;clear h;unfold nK at h';split at h'
  ·rename_i j m a j' n b;replace h':=aC h';rcases h' with⟨hk,h'⟩|⟨_,h'⟩
   ·rw[xf] at hk;split at h'
    ·rename_i r hr;have h2:=xC h';replace h2:=aC h2;rcases h2 with⟨hi,h2⟩|⟨_,h2⟩
     ·subst h2;rw[oU] at hi;rw[qg hk.1,qg hk.2,of_decide_eq_true hi,Vo ks a b hr]
     ·cases h2
    ·cases h'
   ·cases h'
  ·cases h'
theorem Vq:∀(ks:JI) (a b:C3),eR ks a b=some true->∀n,(a.zip b).all (fun p=>Instr.sameBits (n+1) p.1 p.2)=true
 |[],a,b,h,n=>by
  have h':o7 a b=some true:=h;clear h;unfold o7 at h';split at h'
  ·rfl
  ·cases h'
 |k::ks,a,b,h,n=>by
  have h':nK k (eR ks) a b=some true:=h;clear h;unfold nK at h';split at h'
  ·rename_i j m a1 j' n' b1;replace h':=aC h';rcases h' with⟨hk,h'⟩|⟨_,h'⟩
   ·rw[xf] at hk;split at h'
    ·rename_i r hr;have h2:=xC h';replace h2:=aC h2;rcases h2 with⟨hi,h2⟩|⟨_,h2⟩
     ·subst h2;rw[oU] at hi;have ih:=Vq ks a1 b1 hr n;rw[List.zip_cons_cons,List.all_cons,xf];refine⟨?_,ih⟩;rw[qg hk.1,qg hk.2,of_decide_eq_true hi];simp[Instr.sameBits]
     ·cases h2
    ·cases h'
   ·cases h'
  ·cases h'
def jz(E:az)(sq:Cf)(kt:xN)(k k2:xM):Option Bool:=
 match k,k2 with
 | .string ⟨⟨a⟩⟩,.string ⟨⟨b⟩⟩=>match E.ti.get none kt with|some ⟨.string,_,_,_,_⟩=>some (ug a b)|_=>none
 | .agg ⟨a⟩,.agg ⟨b⟩=>match ib sq kt with|some ks=>eR ks a b|none=>none
 |_,_=>none
def pK(E:az)(sq:Cf)(kt:xN)(k:xM)(es:FP):Nat->Option (Option (Nat×xM)):=
 List.rec (motive:=fun _=>Nat->Option (Option (Nat×xM))) (fun _=>some none) (fun e _ ih i=>match jz E sq kt k e.key with
  |none=>none
  |some true=>some (some (i,e.val))
  |some false=>ih (Nat.add i 1)) es
def qX(E:az)(sq:Cf)(kt:xN)(k:xM):Bool:=
 match jz E sq kt k k with
 |some true=>true
 |_=>false
def il(β:ai)(es ae:FP):Prop:=es.length=ae.length/\∀(i:Nat) e e',es[i]? =some e->ae[i]? =some e'->Ho β e e'
theorem il.mono{β':ai}(hb:β.le β')(h:il β es ae):il β' es ae:=⟨h.1,fun i e e' a b=>⟨(h.2 i e e' a b).1,(h.2 i e e' a b).2.1.mono hb,(h.2 i e e' a b).2.2.mono hb⟩⟩
theorem il.pu{r:FP}(h:il β (e::es) r):∃e' ae,r=e'::ae/\Ho β e e'/\il β es ae:=by
 cases r with
 |nil=>exact absurd h.1 NS
 |cons e' l'=>exact⟨e',l',rfl,h.2 0 e e' rfl rfl,by have:=h.1;grind,fun i a b ha hb=>h.2 (i+1) a b Ns Ns⟩
theorem il.qU{r:FP}(h:il β [] r):r=[]:=by
 cases r with
 |nil=>rfl
 |cons _ _=>exact absurd h.1 NS
def SK(β:ai)(ae:FP)(r r':Option (Nat×xM)):Prop:=
 (r=none/\r'=none)\/∃j v v',r=some (j,v)/\r'=some (j,v')/\aj β v v'
section
variable(ok:E.Ok P){sq:Cf}(aU:E.Seq P sq)
theorem U9(hs:∀k2 js b,jz E sq kt k k2=some b->aj β k2 js->Instr.sameNow d k' js=some b):∀(es ae:FP) (i:Nat) (r:Option (Nat×xM)),pK E sq kt k es i=some r->il β es ae->
 ∃r',Instr.findNow d k' ae i=some r'/\SK β ae r r'
 |[],ae,i,r,h,hm=>by
  rw[hm.qU];cases h;exact⟨none,rfl,.inl ⟨rfl,rfl⟩⟩
 |e::es,ae,i,r,h,hm=>by
  obtain⟨e',Hi,rfl,⟨hb,hk,hv⟩,wz⟩:=hm.pu;have h':(match jz E sq kt k e.key with
   |none=>none
   |some true=>some (some (i,e.val))
   |some false=>pK E sq kt k es (i+1))=some r:=h
  clear h;split at h'
  ·cases h'
  ·rename_i hq;cases h';exact⟨some (i,e'.val),by grind [Instr.findNow,hk],.inr ⟨i,e.val,e'.val,rfl,rfl,hv⟩⟩
  ·rename_i hq;obtain⟨r',h1,h2⟩:=U9 hs es Hi (i+1) r h' wz;exact⟨r',by grind [Instr.findNow,hk],h2⟩
theorem Uz(hs:∀k2 js b,jz E sq kt k k2=some b->aj β k2 js->(Op.equal kt k' js).run P w= .ok b w):∀(es ae:FP) (i:Nat) (r:Option (Nat×xM)),pK E sq kt k es i=some r->il β es ae->
 ∃r',(Instr.findAsking kt k' ae i).run P w= .ok r' w/\SK β ae r r'
 |[],ae,i,r,h,hm=>by
  rw[hm.qU];cases h;exact⟨none,by simp[Instr.findAsking],.inl ⟨rfl,rfl⟩⟩
 |e::es,ae,i,r,h,hm=>by
  obtain⟨e',Hi,rfl,⟨hb,hk,hv⟩,wz⟩:=hm.pu;have h':(match jz E sq kt k e.key with
   |none=>none
   |some true=>some (some (i,e.val))
   |some false=>pK E sq kt k es (i+1))=some r:=h
  clear h;split at h'
  ·cases h'
  ·rename_i hq;cases h';exact⟨some (i,e'.val),by simp[Instr.findAsking,hs _ _ _ hq hk],.inr ⟨i,e.val,e'.val,rfl,rfl,hv⟩⟩
  ·rename_i hq;obtain⟨r',h1,h2⟩:=Uz hs es Hi (i+1) r h' wz;exact⟨r',by simp[Instr.findAsking,hs _ _ _ hq hk,h1],h2⟩
include ok aU in
theorem FE(hk:qX E sq kt k=true)(Tu:aj β k k'){r:Option (Nat×xM)}(h:pK E sq kt k es 0=some r)(hm:il β es ae)(w:World):
 (∃r',(Instr.findKey kt k' ae).run P w= .ok r' w/\SK β ae r r')/\(∀em,(Instr.checkKey em 10000 kt k').run P w= .ok () w)/\k'=k/\Instr.sameBits 10000 k k=true/\(∀k2 js,jz E sq kt k k2=some true->aj β k2 js->js=k):=by
 unfold qX at hk;split at hk
 ·rename_i gY;cases k with
  |string b=>
   obtain⟨⟨a⟩⟩:=b;have jE:=gY;simp only [jz] at jE;split at jE
   ·rename_i _ _ _ _ hr;cases Tu;have hu:=(ok.ti kt _ hr).1;have hs:∀k2 js b,jz E sq kt (.string ⟨⟨a⟩⟩) k2=some b->aj β k2 js->Instr.sameNow .string (.string ⟨⟨a⟩⟩) js=some b/\(b=true->js= .string ⟨⟨a⟩⟩):=fun k2 js b hq hv=>by
     cases k2<;>simp only [jz] at hq<;>try(cases hq;done)
     rename_i s2;obtain⟨⟨a2⟩⟩:=s2;rw[hr] at hq;simp only at hq;cases hq;cases hv;rw[x6];refine⟨?_,fun hb=>Ns⟩
     grind [Instr.sameNow,YR]
    obtain⟨r',h1,h2⟩:=U9 (fun k2 js b hq hv=>(hs k2 js b hq hv).1) es ae 0 r h hm;refine⟨⟨r',by simp[Instr.findKey,run_underlying hu,h1],h2⟩,fun em=> ?_,rfl,by simp only [Instr.sameBits];rw[YR];grind,fun k2 js hq hv=>(hs k2 js true hq hv).2 rfl⟩;rw[show(10000:Nat)=9999+1 from rfl,Instr.checkKey];simp[run_underlying hu]
   ·cases jE
  |agg b=>
   obtain⟨a⟩:=b;have jE:=gY;simp only [jz] at jE;split at jE
   ·rename_i ks dS;have fq:k'= .agg ⟨a⟩:=by
     cases Tu with
     |agg _ p' hp h1=>obtain⟨rfl,_⟩:=IG ks a a p' p' true jE ⟨hp,h1⟩ ⟨hp,h1⟩;rfl
    subst fq;have hs:∀k2 js b,jz E sq kt (.agg ⟨a⟩) k2=some b->aj β k2 js->(Op.equal kt (.agg ⟨a⟩) js).run P w= .ok b w/\(b=true->js= .agg ⟨a⟩):=fun k2 js b hq hv=>by
     cases k2<;>simp only [jz] at hq<;>try(cases hq;done)
     rename_i s2;obtain⟨a2⟩:=s2;rw[dS] at hq;simp only at hq;cases hv with
     |agg _ p' hp h1=>
      cases Tu with
      |agg _ q' Mf h2=>
       obtain⟨_,rfl⟩:=IG ks a a2 a p' b hq ⟨Mf,h2⟩ ⟨hp,h1⟩
       grind [Vo,aU.eq]
    obtain⟨r',h1,h2⟩:=Uz (P:=P) (w:=w) (fun k2 js b hq hv=>(hs k2 js b hq hv).1) es ae 0 r h hm;refine⟨⟨r',?_,h2⟩,fun em=>aU.key kt ks a dS jE em w,rfl,?_,fun k2 js hq hv=>(hs k2 js true hq hv).2 rfl⟩
    ·obtain⟨d,hd⟩:=aU.und kt ks dS;cases ae with
     |nil=>
      have:r'=none:=by simp[Instr.findAsking] at h1;exact h1.symm
      subst this;simp[Instr.findKey,run_underlying hd,Instr.findNow]
     |cons e' Hi=>
      have hsn:Instr.sameNow d (.agg ⟨a⟩) e'.key=none:=by
       cases d<;>rfl
      simp[Instr.findKey,run_underlying hd,Instr.findNow,hsn,h1]
    ·have:=Vq ks a a jE 9998;rw[show(10000:Nat)=9999+1 from rfl,Instr.sameBits]
     grind
   ·cases jE
  |_=>simp only [jz] at gY;cases gY
 ·cases hk
end
section
variable(ok:E.Ok P){sq:Cf}(aU:E.Seq P sq)(inv:Inv w0 E.G β A w)
def x8(E:az)(t:xN):JJ:=
 match E.ti.get none t with
 |some r=>bs r.uj (bs (mT r.desc) (some (.agg ⟨fC rj r.zero⟩)) (match r.zero with|[c]=>some (rj c)|_=>none)) none
 |none=>none
include ok in
theorem I4{v:xM}(h:x8 E t=some v)(w:World):∃v',(zeroValue t).run P w= .ok v' w/\∀β:ai,aj β v v':=by
 unfold x8 at h;split at h
 ·rename_i r hr;replace h:=aC h;rcases h with⟨hz,h⟩|⟨_,h⟩
  ·obtain⟨_,i,hi,_,_,fV⟩:=ok.ti t r hr;obtain⟨z,ot,L7⟩:=fV hz;obtain⟨e1,e2⟩:=ok.zr t r i z hr hi hz ot;have aW:(zeroValue t).run P w= .ok z w:=by simp[zeroValue,typeInfo,hi,ot]
   refine⟨z,aW,fun β=> ?_⟩;replace h:=aC h;rcases h with⟨hd,h⟩|⟨hd,h⟩
   ·cases h;have:z= .agg ⟨r.zero⟩:=by
     rw[e1];cases TA:r.desc<;>rw[TA] at hd<;>first|(cases hd;done)|rfl
    grind [aj.mU,Ch]
   ·split at h
    ·rename_i c hc;cases h;have:z=c:=by
      rw[e1];cases TA:r.desc<;>rw[TA] at hd<;>first|(cases hd;done)|(simp only [hc])
     grind [Fi]
    ·cases h
  ·cases h
 ·cases h
theorem il.set(h:il β es ae)(i:Nat)(he:Ho β e e'):il β (es.set i e) (ae.set i e'):=by
 refine⟨by simp[h.1],fun k a b ha hb=> ?_⟩;rw[List.getElem?_set] at ha hb;by_cases hk:i=k
 ·grind
 ·rw[if_neg hk] at ha hb;exact h.2 k a b ha hb
theorem il.snoc(h:il β es ae)(he:Ho β e e'):il β (es++[e]) (ae++[e']):=by
 refine⟨by simp[h.1],fun k a b ha hb=> ?_⟩;by_cases hk:k<es.length
 ·rw[xw hk] at ha;rw[xw (by rw[<-h.1];exact hk)] at hb;exact h.2 k a b ha hb
 ·rw[xq MK] at ha;rw[xq (by rw[<-h.1];omega),<-h.1] at hb
  grind
end
section
variable(ok:E.Ok P){sq:Cf}(aU:E.Seq P sq)(inv:Inv w0 E.G β A w)
theorem B9{j:Nat}(h:es[j]? =some e)(f:MapEntry->MapEntry):(⟨es⟩:LH).modify j f=⟨es.set j (f e)⟩:=by
 grind
theorem il.get{es ae:FP}(h:il β es ae){i:Nat}{e:MapEntry}(he:es[i]? =some e):∃e',ae[i]? =some e'/\Ho β e e':=by
 have hi:i<ae.length:=h.1▸(xe.1 he).1;exact⟨ae[i],by simp[hi],h.2 i e _ he (by simp[hi])⟩
end
end
end Go.Ex
