/- Steps of programs on data. -/
import Derived.Test.YthicpeihkkokmaaGreatDoorX10
import Derived.IntWalk
set_option linter.unusedVariables false
set_option linter.unusedSimpArgs false
namespace Go.Ex
variable{c a b n es bys:Nat}{k:xO}{rows:a0b}{row env:a0d}{Q:a0d->Prop}{args:a0e}{t e:DT}{α:Type}
open Go.RowKit
theorem AL(k:xO):dA k k=true:=by cases k<;>rfl
section
variable{a b:Int}
theorem ay:aL (.bin .eql c) [.int k a,.int k b]=some (.bool (decide (a=b))):=by
 show ofInt (bs (dA k k) (rX .eql k a b) none)=_;rw[AL];show some (D.bool (mo a b))=_;rw[oG]
theorem gP:aL (.bin .neq c) [.int k a,.int k b]=some (.bool (decide (a≠b))):=by
 show ofInt (bs (dA k k) (rX .neq k a b) none)=_;rw[AL];show some (D.bool (not (mo a b)))=_;rw[oG];simp
theorem ai:aL (.bin .lss c) [.int k a,.int k b]=some (.bool (decide (a<b))):=by
 show ofInt (bs (dA k k) (rX .lss k a b) none)=_;rw[AL];show some (D.bool (iI a b))=_;rw[nZ]
theorem cg:aL (.bin .gtr c) [.int k a,.int k b]=some (.bool (decide (b<a))):=by
 show ofInt (bs (dA k k) (rX .gtr k a b) none)=_;rw[AL];show some (D.bool (iI b a))=_;rw[nZ]
theorem kv:aL (.bin .leq c) [.int k a,.int k b]=some (.bool (decide (a<=b))):=by
 show ofInt (bs (dA k k) (rX .leq k a b) none)=_;rw[AL];show some (D.bool (not (iI b a)))=_;rw[nZ,NI]
theorem fp:aL (.bin .geq c) [.int k a,.int k b]=some (.bool (decide (b<=a))):=by
 show ofInt (bs (dA k k) (rX .geq k a b) none)=_;rw[AL];show some (D.bool (not (iI a b)))=_;rw[nZ,NI]
theorem jE{a b:a0h}:aL (.bin .eql c) [.str a,.str b]=some (.bool (decide (a=b))):=rfl
theorem aX3{a b:a0h}:aL (.bin .neq c) [.str a,.str b]=some (.bool (decide (a≠b))):=by
 show some (D.bool (!decide (a=b)))=_;simp
end
abbrev jD(n:Nat):D:= .int .i64 (n:Nat)
theorem bm(h:a+b<=9223372036854775807):aL (.bin .add c) [jD a,jD b]=some (jD (a+b)):=by
 show some (D.int .i64 (gG .i64 ((a:Int)+(b:Int))))=_;rw[lW,IntWalk.i64_in _ a0B];rfl
theorem Ym{a b:Int}(h1: -9223372036854775808<=a+b)(h2:a+b<=9223372036854775807):aL (.bin .add c) [.int .i64 a,.int .i64 b]=some (.int .i64 (a+b)):=by
 show some (D.int .i64 (gG .i64 (a+b)))=_;rw[lW,IntWalk.i64_in _ a0B]
theorem sQ{a b:Int}(h1: -9223372036854775808<=a - b)(h2:a - b<=9223372036854775807):aL (.bin .sub c) [.int .i64 a,.int .i64 b]=some (.int .i64 (a - b)):=by
 show some (D.int .i64 (gG .i64 (a - b)))=_;rw[lW,IntWalk.i64_in _ a0B]
theorem eW(h:b<=a)(h2:a<=9223372036854775807):aL (.bin .sub c) [jD a,jD b]=some (jD (a - b)):=by
 rw[sQ a0B a0B];congr 2;omega
theorem mG(k:xO)(h:1<=b):aL (.bin .rem c) [.int k (a:Nat),.int k (b:Nat)]=some (.int k ((a%b:Nat):Int)):=by
 show ofInt (bs (dA k k) (rX .rem k a b) none)=_;rw[AL];show ofInt (bs (mo (b:Int) 0) none (some (.int k (Int.tmod a b))))=_;rw[oG,decide_eq_false a0B];show some (D.int k (Int.tmod a b))=_
 congr 2
theorem wb(h:1<=b)(h2:a<=9223372036854775807):aL (.bin .quo c) [jD a,jD b]=some (jD (a/b)):=by
 show ofInt (bs (mo (b:Int) 0) none (some (.int .i64 (gG .i64 (Int.tdiv a b)))))=_;rw[oG,decide_eq_false a0B];show some (D.int .i64 (gG .i64 (Int.tdiv a b)))=_;have:a/b<=a:=Nat.div_le_self a b;have h3:Int.tdiv (a:Int) (b:Int)=((a/b:Nat):Int):=rfl;rw[h3,lW,IntWalk.i64_in _ ⟨by exact Int.le_trans a0I (Int.natCast_nonneg _),a0B⟩]
theorem uA(h2:a*b<=9223372036854775807):aL (.bin .mul c) [jD a,jD b]=some (jD (a*b)):=by
 show some (D.int .i64 (gG .i64 ((a:Int)*(b:Int))))=_;have h3:(a:Int)*(b:Int)=((a*b:Nat):Int):=a0C
 rw[h3,lW,IntWalk.i64_in _ a0B]
theorem Ed(h:n<=9223372036854775807):aL (.mv .i64) [.int k (n:Nat)]=some (jD n):=by
 show some (D.int .i64 (IntKind.i64.wrap n))=_;rw[IntWalk.i64_in _ a0B]
theorem yZ(h:n<=255):aL (.mv .u8) [.int k (n:Nat)]=some (.int .u8 (n:Nat)):=by
 show some (D.int .u8 (IntKind.u8.wrap n))=_;rw[IntWalk.u8_in _ a0B]
theorem bf:aL .uT [.sl rows]=some (jD rows.length):=rfl
theorem aA{m:Nat}(h:rows[m]? =some row)(hl:row.length=es):aL (.uU es) [.sl rows,jD m]=some (.ptr row 0):=by
 show(rows[m]?).bind _=_;rw[h];show(if row.length=es then _ else _)=_;rw[if_pos hl]
theorem Kh(h:a<=rows.length)(hl:∀row∈rows,row.length=es):aL (.qk es) [.sl rows,jD a]=some (.sl (rows.drop a)):=by
 show(if a<=rows.length/\rows.length<=rows.length/\(a=0\/Gq rows es=true) then some (D.sl ((rows.drop a).take (rows.length - a))) else none)=_;rw[if_pos ⟨h,xk _,.inr (by cases rows with|nil=>rfl|cons r l=>simp[Gq,hl r xn])⟩];rw[List.take_of_length_le a0C]
theorem nw(h:b<=rows.length):aL (.qk es) [.sl rows,jD 0,jD b]=some (.sl (rows.take b)):=by
 show(if 0<=b/\b<=rows.length/\(0=0\/Gq rows es=true) then some (D.sl ((rows.drop 0).take (b - 0))) else none)=_;rw[if_pos ⟨xL _,h,.inl rfl⟩];rfl
theorem Bb{q:a0b}(hq:∀row∈q,row.length=es/\row.all D.cell=true)(h1:rows.length+q.length<=9223372036854775807)(h2:(rows.length+q.length)*bys<=140737488355328):aL (.app es bys) [.sl rows,.sl q]=some (.sl (rows++q)):=by
 show(if q.all (fun r=>r.length==es&&r.all D.cell) then some q else none).bind (fun q=>if mK (rows.length+q.length) bys then some (D.sl (rows++q)) else none)=_;rw[if_pos (List.all_eq_true.2 fun r hr=>by simp[(hq r hr).1,(hq r hr).2])];show(if mK _ bys then _ else _)=_;rw[if_pos (by simp[mK,h1,h2])]
theorem gD(hl:row.length=es)(hc:row.all D.cell=true)(h2:(rows.length+1)*bys<=140737488355328)(h1:rows.length+1<=9223372036854775807):aL (.app es bys) [.sl rows,.sl [row]]=some (.sl (rows++[row])):=
 Bb (q:=[row]) (fun r hr=>by rw[xy] at hr;subst hr;exact⟨hl,hc⟩) h1 h2
theorem aX2(ha:a<256)(hb:b<256):aL .strOf [.int .u8 (a:Nat),.int .u8 (b:Nat)]=some (.str [a.toUInt8,b.toUInt8]):=by
 show(if a<256 then(if b<256 then some [b.toUInt8] else none:Option (List UInt8)).map (fun r=>a.toUInt8::r) else none:Option (List UInt8)).map D.str=_;rw[if_pos ha,if_pos hb];rfl
section
variable{F:List FD}{X:a0a}{i h:Nat}{ds:a0d}
theorem Wp.dO{k:NK}{p:Prop}[Decidable p](h1:aI (bR (lk env)) args=some ds)(h2:aL k ds=some (.bool (decide p)))(hp:p)(h4:Wp F X i t env Q):Wp F X i (.br k args t e) env Q:=Wp.nV h1 (by rw[h2,decide_eq_true hp]) h4
theorem Wp.dF{k:NK}{p:Prop}[Decidable p](h1:aI (bR (lk env)) args=some ds)(h2:aL k ds=some (.bool (decide p)))(hp: ¬p)(h4:Wp F X i e env Q):Wp F X i (.br k args t e) env Q:=Wp.rG h1 (by rw[h2,decide_eq_false hp]) h4
theorem Wp.bA4{f j:Nat}{us:a0e}{cT:List (Option xM)}{Q':a0d->Prop}(h1:aI (aZ (lk env)) us=some ds)(h2:Rn F X j 0 ds Q')(h3:∀o,Q' o->jx cT o=true/\Wp F X i t (env++o) Q):Wp F X i (.call f j us cT t e) env Q:=
 Wp.call h1 h2 fun o q=> .inl (h3 o q)
end
theorem qL{k:Nat}:aL .jf [jD n,jD k]=some (.bool (decide (k<n))):=rfl
theorem Zr{k:Nat}:aL .jf [.sl rows,jD k]=some (.bool (decide (k<rows.length))):=rfl
theorem O6{off k:Nat}{d:D}{b:Bool}(h:rows[k]? =some row)(hp:yX row off n b=some d):aL (.qK off n b) [.sl rows,jD k]=some d:=by
 show(rows[k]?).bind _=_;rw[h];exact hp
theorem bh1:aL .mx [.int k (a:Nat),.int k (b:Nat)]=some (.int k ((max a b:Nat):Int)):=by
 show some (D.int k (if(a:Int)<b then(b:Int) else a))=_
 congr 2
 split<;>omega
theorem bh0:aL .mx [.int k (a:Nat),.int k (b:Nat),.int k (c:Nat)]=some (.int k ((max (max a b) c:Nat):Int)):=by
 show some (D.int k (if(if(a:Int)<b then(b:Int) else a)<c then(c:Int) else(if(a:Int)<b then(b:Int) else a)))=_
 congr 2
 split<;>split<;>omega
theorem dH{a b:a0h}(h:a.length+b.length<=9223372036854775807):aL (.bin .add c) [.str a,.str b]=some (.str (a++b)):=by
 show(if a.length+b.length<=9223372036854775807 then some (D.str (a++b)) else none)=_;rw[if_pos h]
theorem lh(a:α)(l:List α):List.take 1 (List.drop 0 (a::l))=[a]:=rfl
theorem lg(a b:α)(l:List α):List.take 2 (List.drop 0 (a::b::l))=[a,b]:=rfl
theorem k9(a b c:α)(l:List α):List.take 3 (List.drop 0 (a::b::c::l))=[a,b,c]:=rfl
theorem kZ(a b c d:α)(l:List α):List.take 4 (List.drop 0 (a::b::c::d::l))=[a,b,c,d]:=rfl
theorem kY(a b c d e f:α)(l:List α):List.take 6 (List.drop 0 (a::b::c::d::e::f::l))=[a,b,c,d,e,f]:=rfl
def mw(k:xO)(d:D):Prop:=∃n:Nat,d= .int k (.ofNat n)/\n<mk k
abbrev tN:=List (NK×List xM)
def G3(l:tN)(t:DT):DT:=l.foldr (fun x t=> .op x.1 x.2 t) t
noncomputable def wY(K:T (Option xO))(v:xM):Option xO:=
 match v with
 | .chan (some (c+1))=>K.get none c
 | .int k (.ofNat n)=>bs (Nat.blt n (mk k)) (some k) none
 |_=>none
noncomputable def Lf(K:T (Option xO))(k:NK)(args:a0e):Option xO:=
 match k,args with
 | .bin op _,[x,y]=>match wY K x,wY K y with
  |some a,some b=>match op with
   | .add=>bs (dA a b&& !a.signed) (some a) none
   | .sub=>bs (dA a b&& !a.signed) (some a) none
   | .and=>bs (dA a b&& !a.signed) (some a) none
   | .or=>bs (dA a b&& !a.signed) (some a) none
   | .xor=>bs (dA a b&& !a.signed) (some a) none
   | .shl=>bs a.signed none (some a)
   | .shr=>bs a.signed none (some a)
   |_=>none
  |_,_=>none
 | .un .xor,[x]=>match wY K x with|some a=>bs a.signed none (some a)|none=>none
 | .mv k',[x]=>match wY K x with|some _=>bs k'.signed none (some k')|none=>none
 |_,_=>none
noncomputable def uI(l:tN):T (Option xO)->Nat->Option (T (Option xO)×Nat):=
 List.rec (motive:=fun _=>T (Option xO)->Nat->Option (T (Option xO)×Nat)) (fun K n=>some (K,n))
  (fun x _ ih K n=>match Lf K x.1 x.2 with|some r=>ih (K.set n (some r)) (Nat.succ n)|none=>none) l
theorem DP(hs:k.signed=false)(n:Int):∃m:Nat,gG k n= .ofNat m/\m<mk k:=by
 unfold gG;have hr:∀r:Nat,r<mk k->∃m:Nat,bs (Nat.ble (hk k) r) (Int.negSucc (Nat.sub (Nat.sub (mk k) r) 1)) (Int.ofNat r)= .ofNat m/\m<mk k:=fun r h=>by
  have e:hk k=mk k:=by cases k<;>first|rfl|(exact absurd hs a0I)
  have hb:Nat.ble (hk k) r=false:=by
   cases hq:Nat.ble (hk k) r with
   |false=>rfl
   |true=>have:=xh hq;omega
  rw[hb];exact⟨r,rfl,h⟩
 have Mp:0<mk k:=by cases k<;>decide
 cases n with
 |ofNat m=>exact hr _ (Nat.mod_lt _ Mp)
 |negSucc m=>exact hr _ (by show mk k - 1 - m%mk k<mk k;omega)
theorem bk8(h:n<mk k)(p:Nat):∃m:Nat,Int.fdiv (.ofNat n) (.ofNat p)= .ofNat m/\m<mk k:=by
 refine⟨n/p,?_,Nat.lt_of_le_of_lt (Nat.div_le_self n p) h⟩;cases n with
 |zero=>simp
 |succ n=>rfl
theorem MP{op:BinOp}(hs:k.signed=false)(ek:op= .and\/op= .or\/op= .xor)(a b:Nat):∃m:Nat,n8 op k (.ofNat a) (.ofNat b)=some (.ofNat m)/\m<mk k:=by
 rcases ek with rfl|rfl|rfl
 all_goals
  unfold n8;simp only
  first
   |(obtain⟨m,h1,h2⟩:=DP hs (Int.ofNat (Nat.land (Nat.mod a (mk k)) (Nat.mod b (mk k))));exact⟨m,by rw[h1],h2⟩)
   |(obtain⟨m,h1,h2⟩:=DP hs (Int.ofNat (Nat.lor (Nat.mod a (mk k)) (Nat.mod b (mk k))));exact⟨m,by rw[h1],h2⟩)
   |(obtain⟨m,h1,h2⟩:=DP hs (Int.ofNat (Nat.xor (Nat.mod a (mk k)) (Nat.mod b (mk k))));exact⟨m,by rw[h1],h2⟩)
section
variable{K:T (Option xO)}(he:∀c k,K.get none c=some k->∃d,env[c]? =some d/\mw k d)
include he
theorem Ky{v:xM}(h:wY K v=some k):∃n:Nat,bR (lk env) v=some (.int k (.ofNat n))/\n<mk k:=by
 unfold wY at h;split at h
 ·rename_i c;obtain⟨d,h1,n,rfl,h3⟩:=he c k h;refine⟨n,?_,h3⟩;show(env[c]?).bind _=_;rw[h1];rfl
 ·rename_i k0 n;rcases ax h with⟨h1,h2⟩|⟨_,h2⟩<;>cases h2
  exact⟨n,rfl,xh h1⟩
 ·cases h
theorem aL1{k:NK}{r:xO}(h:Lf K k args=some r):∃ds d,aI (bR (lk env)) args=some ds/\aL k ds=some d/\mw r d:=by
 unfold Lf at h;split at h
 ·rename_i op c x y;split at h
  ·rename_i a b ha hb;obtain⟨n,e1,e2⟩:=Ky he ha;obtain⟨m,e3,e4⟩:=Ky he hb;have fR:aI (bR (lk env)) [x,y]=some [.int a (.ofNat n),.int b (.ofNat m)]:=by simp only [aI,e1,e3]
   have hm:iI (Int.ofNat m) 0=false:=by rw[nZ];exact decide_eq_false a0C
   have ED:∀(q:Bool),bs (dA a b&& !a.signed) (some a) none=some r->a=b/\a.signed=false/\r=a:=fun _ h=>by
    rcases ax h with⟨h1,h2⟩|⟨_,h2⟩<;>cases h2
    rw[xf] at h1;exact⟨pY h1.1,by simpa using h1.2,rfl⟩
   have wr:∀(x:Int),r=a->a.signed=false->∃d,some (D.int a (gG a x))=some d/\mw r d:=fun x h1 h2=>by
    obtain⟨q,q1,q2⟩:=DP h2 x;exact⟨_,rfl,q,by rw[q1,h1],by rw[h1];exact q2⟩
   split at h
   ·obtain⟨rfl,hs,rfl⟩:=ED true h;obtain⟨d,h1,h2⟩:=wr (Int.add (.ofNat n) (.ofNat m)) rfl hs;refine⟨_,d,fR,?_,h2⟩;rw[<-h1];show ofInt (bs (dA r r) (rX .add r _ _) none)=_;rw[show dA r r=true by cases r<;>rfl];rfl
   ·obtain⟨rfl,hs,rfl⟩:=ED true h;obtain⟨d,h1,h2⟩:=wr (Int.sub (.ofNat n) (.ofNat m)) rfl hs;refine⟨_,d,fR,?_,h2⟩;rw[<-h1];show ofInt (bs (dA r r) (rX .sub r _ _) none)=_;rw[show dA r r=true by cases r<;>rfl];rfl
   ·obtain⟨rfl,hs,rfl⟩:=ED true h;obtain⟨q,q1,q2⟩:=MP (op:= .and) hs (.inl rfl) n m;refine⟨_,.int r (.ofNat q),fR,?_,q,rfl,q2⟩;show ofInt (bs (dA r r) ((n8 .and r (.ofNat n) (.ofNat m)).map (Value.int r)) none)=_;rw[show dA r r=true by cases r<;>rfl,q1];rfl
   ·obtain⟨rfl,hs,rfl⟩:=ED true h;obtain⟨q,q1,q2⟩:=MP (op:= .or) hs (.inr (.inl rfl)) n m;refine⟨_,.int r (.ofNat q),fR,?_,q,rfl,q2⟩;show ofInt (bs (dA r r) ((n8 .or r (.ofNat n) (.ofNat m)).map (Value.int r)) none)=_;rw[show dA r r=true by cases r<;>rfl,q1];rfl
   ·obtain⟨rfl,hs,rfl⟩:=ED true h;obtain⟨q,q1,q2⟩:=MP (op:= .xor) hs (.inr (.inr rfl)) n m;refine⟨_,.int r (.ofNat q),fR,?_,q,rfl,q2⟩;show ofInt (bs (dA r r) ((n8 .xor r (.ofNat n) (.ofNat m)).map (Value.int r)) none)=_;rw[show dA r r=true by cases r<;>rfl,q1];rfl
   ·rcases ax h with⟨_,h2⟩|⟨hs,h2⟩<;>cases h2
    obtain⟨q,q1,q2⟩:=DP hs (Int.mul (.ofNat n) (.ofNat (Nat.pow 2 (Nat.min (Int.toNat (.ofNat m)) r.bits))));refine⟨_,.int r (.ofNat q),fR,?_,q,rfl,q2⟩;show ofInt (bs (iI (.ofNat m) 0) none (some (.int r (gG r _))))=_;rw[hm,q1];rfl
   ·rcases ax h with⟨_,h2⟩|⟨hs,h2⟩<;>cases h2
    obtain⟨q,q1,q2⟩:=bk8 e2 (Nat.pow 2 (Nat.min (Int.toNat (.ofNat m)) r.bits));refine⟨_,.int r (.ofNat q),fR,?_,q,rfl,q2⟩;show ofInt (bs (iI (.ofNat m) 0) none (some (.int r _)))=_;rw[hm,q1];rfl
   ·cases h
  ·cases h
 ·rename_i x;split at h
  ·rename_i a ha;rcases ax h with⟨_,h2⟩|⟨hs,h2⟩<;>cases h2
   obtain⟨n,e1,e2⟩:=Ky he ha;obtain⟨q,q1,q2⟩:=MP (op:= .xor) hs (.inr (.inr rfl)) (Nat.sub (mk r) 1) n;refine⟨[.int r (.ofNat n)],.int r (.ofNat q),by simp only [aI,e1],?_,q,rfl,q2⟩;show(if r.signed=true then none else(n8 .xor r (.ofNat (Nat.sub (mk r) 1)) (.ofNat n)).map (D.int r))=_;rw[hs,q1];rfl
  ·cases h
 ·rename_i k' x;split at h
  ·rename_i a ha;rcases ax h with⟨_,h2⟩|⟨hs,h2⟩<;>cases h2
   obtain⟨n,e1,e2⟩:=Ky he ha;obtain⟨q,q1,q2⟩:=DP hs (Int.ofNat n);refine⟨[.int a (.ofNat n)],.int r (.ofNat q),by simp only [aI,e1],?_,q,rfl,q2⟩;show some (D.int r (r.wrap _))=_;rw[<-lW,q1]
  ·cases h
 ·cases h
end
section
variable{F:List FD}{X:a0a}{i:Nat}
theorem AV:∀(l:tN) (K K':T (Option xO)) (n n':Nat) (env:a0d),env.length=n->(∀c k,K.get none c=some k->∃d,env[c]? =some d/\mw k d)->uI l K n=some (K',n')->
 (∀new:a0d,(env++new).length=n'->(∀c k,K'.get none c=some k->∃d,(env++new)[c]? =some d/\mw k d)->Wp F X i t (env++new) Q)->Wp F X i (G3 l t) env Q
 |[],K,K',n,n',env,hn,he,h,hc=>by
  cases h;have:=hc [] (by simpa using hn) (by simpa using he);rw[xj] at this;exact this
 |x::l,K,K',n,n',env,hn,he,h,hc=>by
  have h':(match Lf K x.1 x.2 with|some r=>uI l (K.set n (some r)) (n+1)|none=>none)=some (K',n'):=h;split at h'
  ·rename_i r hr;obtain⟨ds,d,h1,h2,h3⟩:=aL1 he hr;have iz:d.cell=true:=by obtain⟨m,rfl,_⟩:=h3;rfl
   refine Wp.op h1 h2 iz ?_;refine AV l (K.set n (some r)) K' (n+1) n' (env++[d]) (by simp[hn]) (fun c k nR=> ?_) h' fun new q1 q2=> ?_
   ·by_cases yg:n=c
    ·subst yg;rcases T.ul none K n (some r) with e|⟨e,_⟩
     ·rw[e] at nR;cases nR;exact⟨d,by rw[xq a0B];simp[hn],h3⟩
     ·rw[e] at nR;cases nR
    ·rw[T.um none K n c _ yg] at nR;obtain⟨d',e1,e2⟩:=he c k nR;have:=(xe.1 e1).1;exact⟨d',by rw[xw this];exact e1,e2⟩
   ·have:=hc (d::new) (by simpa using q1) (by simpa using q2);rw[List.append_assoc];exact this
  ·cases h'
end
abbrev bn(op:BinOp)(x y:xM):NK×a0e:=(.bin op 0,[x,y])
abbrev u6(n:Nat):xM:= .int .u64 (.ofNat n)
def vj(x n c:Nat):tN:=[bn .shl (cd x) (u6 (32 - n)),bn .shr (cd x) (u6 n),bn .or (cd c) (cd (c+1))]
def ldW(x c:Nat):tN:=[(.mv .u32,[cd x]),bn .shl (cd c) (u6 24),(.mv .u32,[cd (x+1)]),bn .shl (cd (c+2)) (u6 16),bn .or (cd (c+1)) (cd (c+3)),(.mv .u32,[cd (x+2)]),bn .shl (cd (c+5)) (u6 8),bn .or (cd (c+4)) (cd (c+6)),(.mv .u32,[cd (x+3)]),bn .or (cd (c+7)) (cd (c+8))]
def wC(i:Nat):Nat:=if i<16 then 155+10*i else 326+21*(i - 16)
def exW(x y p q c:Nat):tN:=vj x 7 c++vj x 18 (c+3)++[bn .xor (cd (c+2)) (cd (c+5)),bn .shr (cd x) (u6 3),bn .xor (cd (c+6)) (cd (c+7))]++vj y 17 (c+9)++vj y 19 (c+12)++[bn .xor (cd (c+11)) (cd (c+14)),bn .shr (cd y) (u6 10),bn .xor (cd (c+15)) (cd (c+16)),bn .add (cd p) (cd (c+8)),bn .add (cd (c+18)) (cd q),bn .add (cd (c+19)) (cd (c+17))]
def rnd(a b c d e f g h w r:Nat)(k:xM):tN:=
 [bn .and (cd e) (cd f),(.un .xor,[cd e]),bn .and (cd (r+1)) (cd g),bn .xor (cd r) (cd (r+2))]++vj e 6 (r+4)++vj e 11 (r+7)++[bn .xor (cd (r+6)) (cd (r+9))]++vj e 25 (r+11)++[bn .xor (cd (r+10)) (cd (r+13)),bn .add (cd h) (cd (r+14)),bn .add (cd (r+15)) (cd (r+3)),bn .add (cd (r+16)) k,bn .add (cd (r+17)) (cd w)]++
 vj a 2 (r+19)++vj a 13 (r+22)++[bn .xor (cd (r+21)) (cd (r+24))]++vj a 22 (r+26)++[bn .xor (cd (r+25)) (cd (r+28)),bn .and (cd a) (cd b),bn .and (cd a) (cd c),bn .xor (cd (r+30)) (cd (r+31)),bn .and (cd b) (cd c),bn .xor (cd (r+32)) (cd (r+33)),bn .add (cd (r+29)) (cd (r+34)),bn .add (cd (r+18)) (cd (r+35)),bn .add (cd d) (cd (r+18))]
def ah7:a0e->(a b c d e f g h t r:Nat)->tN
 |[],a,b,c,d,e,f,g,h,_,_=>[bn .add (cd 1) (cd a),bn .add (cd 2) (cd b),bn .add (cd 3) (cd c),bn .add (cd 4) (cd d),bn .add (cd 5) (cd e),bn .add (cd 6) (cd f),bn .add (cd 7) (cd g),bn .add (cd 8) (cd h)]
 |k::l,a,b,c,d,e,f,g,h,t,r=>rnd a b c d e f g h (wC t) r k++ah7 l (r+36) a b c (r+37) e f g (t+1) (r+38)
def H0(kc:a0e):tN:=(List.range 16).flatMap (fun i=>ldW (78+4*i) (146+10*i))++(List.range 48).flatMap (fun i=>exW (wC (i+1)) (wC (i+14)) (wC i) (wC (i+9)) (306+21*i))++ah7 kc 1 2 3 4 5 6 7 8 0 1314
def Jf(b:Option aE):a0e:=match b with|some ⟨.cells cs,_,_,_,_⟩=>cs|_=>[]
end Go.Ex
namespace Go.Fl
open Go.Ex
abbrev aq:=a0h
abbrev a0s:=List aq
abbrev iD(n:Nat):D:= .int .i64 (n:Nat)
abbrev bD(n:Nat):D:= .int .u8 (n:Nat)
inductive Ex where|mk (op:Nat) (name:aq) (n:Nat) (args:List Ex)
inductive St where|mk (kind:Nat) (name cf:aq) (bh:List Ex) (th el:List St)
abbrev a0p:=List St
structure Hn where
 name:aq
 params:a0s
 body:a0p
abbrev a0y:=List (List Hn)
structure Vr where
 name:aq
 type:Nat
 init:Nat
structure Cm where
 name:aq
 vars:List Vr
 aT:a0y
structure Fg where
 name:aq
 init:Bool
structure Lk where
 src:aq
 dst:aq
 Aa:Nat
structure dg where
 name:aq
 flags:List Fg
 links:List Lk
 comps:List Cm
mutual
def Ex.r:Ex->a0d| .mk op name n args=>[iD op,.str name,iD n,.sl (Ex.rs args)]
def Ex.rs:List Ex->List (List D)|[]=>[]|e::l=>Ex.r e::Ex.rs l
end
mutual
def St.r:St->a0d| .mk kind name cf bh th el=>[iD kind,.str name,.str cf,.sl (Ex.rs bh),.sl (St.rs th),.sl (St.rs el)]
def St.rs:List St->List (List D)|[]=>[]|e::l=>St.r e::St.rs l
end
mutual
def Ex.s:Ex->a0d| .mk op name n args=>[bD op,.str name,iD n,.sl (Ex.ss args)]
def Ex.ss:List Ex->List (List D)|[]=>[]|e::l=>Ex.s e::Ex.ss l
end
mutual
def St.s:St->a0d| .mk kind name cf bh th el=>[bD kind,.str name,.str cf,.sl (Ex.ss bh),.sl (St.ss th),.sl (St.ss el)]
def St.ss:List St->List (List D)|[]=>[]|e::l=>St.s e::St.ss l
end
def strs(l:a0s):a0b:=l.map fun p=>[.str p]
def Hn.r(h:Hn):a0d:=[.str h.name,.sl (strs h.params),.sl (St.rs h.body)]
def Hn.s(h:Hn):a0d:=[.str h.name,.sl (strs h.params),.sl (St.ss h.body)]
def Vr.r(v:Vr):a0d:=[.str v.name,iD v.type,iD v.init]
def Vr.s(v:Vr):a0d:=[.str v.name,bD v.type,iD v.init]
def Cm.r(c:Cm):a0d:=[.str c.name,.sl (c.vars.map Vr.r),.sl (c.aT.map fun l=>[.sl (l.map Hn.r)])]
def Cm.s(c:Cm):a0d:=[.str c.name,.sl (c.vars.map Vr.s),.sl (c.aT.map fun l=>[.sl (l.map Hn.s)])]
def Fg.d(f:Fg):a0d:=[.str f.name,.bool f.init]
def Lk.d(l:Lk):a0d:=[.str l.src,.str l.dst,iD l.Aa]
def dg.r(f:dg):a0d:=[.str f.name,.sl (f.flags.map Fg.d),.sl (f.links.map Lk.d),.sl (f.comps.map Cm.r)]
def dg.s(f:dg):a0d:=[.str f.name,.sl (f.flags.map Fg.d),.sl (f.links.map Lk.d),.sl (f.comps.map Cm.s)]
def nm(c:Nat)(k:Nat):aq:=[c.toUInt8,(48+k).toUInt8]
structure Sc where
 ints:Nat
 tables:Nat
 flags:Nat
 params:Nat
inductive fS (c:Sc):Nat->Ex->Prop where
 |num {d:Nat} (n:Nat) (h:n<=8):fS c d (.mk 1 [] n [])
 |var {d:Nat} (k:Nat) (h:k<c.ints):fS c d (.mk 5 (nm 120 k) 0 [])
 |mm {d:Nat} (k:Nat) (h:k<c.params):fS c d (.mk 5 (nm 112 k) 0 [])
 |now {d:Nat}:fS c d (.mk 4 [] 0 [])
 |get {d:Nat} (h:0<c.tables) {e:Ex} (he:fS c d e):fS c (d+1) (.mk 6 (nm 116 0) 0 [e])
 |size {d:Nat} (h:0<c.tables):fS c d (.mk 8 (nm 116 0) 0 [])
 |neg {d:Nat} {e:Ex} (he:fS c d e):fS c (d+1) (.mk 9 [] 0 [e])
 |bin {d:Nat} (op:Nat) (h1:11<=op) (h2:op<=15) {a b:Ex} (ha:fS c d a) (hb:fS c d b):fS c (d+1) (.mk op [] 0 [a,b])
inductive ka (c:Sc):Nat->Ex->Prop where
 |lit {d:Nat} (op:Nat) (h1:2<=op) (h2:op<=3):ka c d (.mk op [] 0 [])
 |b0 {d:Nat}:ka c d (.mk 5 (nm 98 0) 0 [])
 |flag {d:Nat} (k:Nat) (h:k<c.flags):ka c d (.mk 5 (nm 102 k) 0 [])
 |has {d:Nat} (h:0<c.tables) {e:Ex} (he:fS c d e):ka c (d+1) (.mk 7 (nm 116 0) 0 [e])
 |not {d:Nat} {e:Ex} (he:ka c d e):ka c (d+1) (.mk 10 [] 0 [e])
 |C4 {d:Nat} (op:Nat) (h1:22<=op) (h2:op<=23) {a b:Ex} (ha:ka c d a) (hb:ka c d b):ka c (d+1) (.mk op [] 0 [a,b])
 |cmp {d:Nat} (op:Nat) (h1:16<=op) (h2:op<=21) {a b:Ex} (ha:fS c d a) (hb:fS c d b):ka c (d+1) (.mk op [] 0 [a,b])
structure Wd where
 sc:Sc
 ar:a0f
 own:Nat
inductive ma (w:Wd) (B:a0p->Prop):St->Prop where
 |nz (k:Nat) (h:k<w.sc.ints) {e:Ex} (he:fS w.sc 3 e):ma w B (.mk 1 (nm 120 k) [] [e] [] [])
 |BS {e:Ex} (he:ka w.sc 5 e):ma w B (.mk 1 (nm 98 0) [] [e] [] [])
 |put (h:0<w.sc.tables) {a b:Ex} (ha:fS w.sc 3 a) (hb:fS w.sc 3 b):ma w B (.mk 2 (nm 116 0) [] [a,b] [] [])
 |del (h:0<w.sc.tables) {a:Ex} (ha:fS w.sc 3 a):ma w B (.mk 3 (nm 116 0) [] [a] [] [])
 |cond {e:Ex} (he:ka w.sc 5 e) {th el:a0p} (h1:B th) (h2:B el):ma w B (.mk 4 [] [] [e] th el)
 |EB {e:Ex} (he:ka w.sc 5 e) {th:a0p} (h1:B th):ma w B (.mk 5 [] [] [e] th [])
 |send (i h n:Nat) {l:a0g} (hi:w.ar[i]? =some l) (hh:l[h]? =some n) {es:List Ex} (he:∀e∈es,fS w.sc 3 e) (hn:es.length=n):ma w B (.mk 6 [(97+i).toUInt8] (nm 104 h) es [] [])
 |Ci (h n:Nat) {l:a0g} (hi:w.ar[w.own]? =some l) (hh:l[h]? =some n) {es:List Ex} (he:∀e∈es,fS w.sc 3 e) (hn:es.length=n+1):ma w B (.mk 7 [] (nm 104 h) es [] [])
 |store {a b:Ex} (ha:fS w.sc 3 a) (hb:fS w.sc 3 b) {el:a0p} (h2:B el):ma w B (.mk 8 [] [] [a,b] [] el)
 |Eo (k:Nat) (h:k<w.sc.ints) {a:Ex} (ha:fS w.sc 3 a) {el:a0p} (h2:B el):ma w B (.mk 9 (nm 120 k) [] [a] [] el)
 |stop:ma w B (.mk 10 [] [] [] [] [])
def j8(w:Wd):Nat->List St->Prop
 |0,l=>l=[]
 |d+1,l=>∀s∈l,ma w (j8 w d) s
theorem fS.mono{c:Sc}{d d':Nat}{e:Ex}(h:fS c d e)(hd:d<=d'):fS c d' e:=by
 induction h generalizing d' with
 |num n h=>exact .num n h
 |var k h=>exact .var k h
 |mm k h=>exact .mm k h
 |now=>exact .now
 |get h _ ih=>obtain⟨d',rfl⟩:∃x,d'=x+1:=⟨d' - 1,a0B⟩;exact .get h (ih a0B)
 |size h=>exact .size h
 |neg _ ih=>obtain⟨d',rfl⟩:∃x,d'=x+1:=⟨d' - 1,a0B⟩;exact .neg (ih a0B)
 |bin op h1 h2 _ _ kI dT=>obtain⟨d',rfl⟩:∃x,d'=x+1:=⟨d' - 1,a0B⟩;exact .bin op h1 h2 (kI a0B) (dT a0B)
theorem ka.mono{c:Sc}{d d':Nat}{e:Ex}(h:ka c d e)(hd:d<=d'):ka c d' e:=by
 induction h generalizing d' with
 |lit op h1 h2=>exact .lit op h1 h2
 |b0=>exact .b0
 |flag k h=>exact .flag k h
 |has h he=>obtain⟨d',rfl⟩:∃x,d'=x+1:=⟨d' - 1,a0B⟩;exact .has h (he.mono a0B)
 |not _ ih=>obtain⟨d',rfl⟩:∃x,d'=x+1:=⟨d' - 1,a0B⟩;exact .not (ih a0B)
 |C4 op h1 h2 _ _ kI dT=>obtain⟨d',rfl⟩:∃x,d'=x+1:=⟨d' - 1,a0B⟩;exact .C4 op h1 h2 (kI a0B) (dT a0B)
 |cmp op h1 h2 ha hb=>obtain⟨d',rfl⟩:∃x,d'=x+1:=⟨d' - 1,a0B⟩;exact .cmp op h1 h2 (ha.mono a0B) (hb.mono a0B)
structure Mk where
 ints:Nat
 tables:Nat
 flags:Nat
 own:Nat
 ar:a0f
 params:Nat
 bs:a0h
 left:Nat
def bV(l:a0h):a0b:=l.map fun b=>[bD b.toNat]
def ey(ar:a0f):a0b:=ar.map fun l=>[.sl (l.map fun n=>[iD n])]
def Mk.d(m:Mk):a0d:=[iD m.ints,iD m.tables,iD m.flags,iD m.own,.sl (ey m.ar),iD m.params,.sl (bV m.bs),iD m.left]
def Mk.sc(m:Mk):Sc:=⟨m.ints,m.tables,m.flags,m.params⟩
def Mk.wd(m:Mk):Wd:=⟨m.sc,m.ar,m.own⟩
structure Mk.Ok (m:Mk):Prop where
 i1:1<=m.ints
 i3:m.ints<=3
 t1:m.tables<=1
 f2:m.flags<=2
 p2:m.params<=2
 own:m.own<m.ar.length
 F8:m.ar.length<=3
 jC:∀l∈m.ar,1<=l.length/\l.length<=3/\∀n∈l,n<=2
 left:m.left<=12
def Mk.to(m m':Mk):Prop:=(∃bs l,m'={m with bs:=bs,left:=l})/\m'.bs.length<=m.bs.length/\m'.left<=m.left
end Go.Fl
namespace Go.Ex
variable{t:DT}{us:a0e}{env ds o:a0d}{Q:a0d->Prop}{f j m c:Nat}
open Go.RowKit
noncomputable section
def az1:Nat->DT->List D->Option (DT×List D)
 |0,t,env=>some (t,env)
 |n+1,.note _ t,env=>az1 n t env
 |n+1,.op k args t,env=>match aI (bR (lk env)) args with
  |some ds=>match aL k ds with
   |some d=>match d.cell with
    |true=>az1 n t (env++[d])
    |false=>none
   |none=>none
  |none=>none
 |n+1,.aV k args cT t e,env=>match aI (bR (lk env)) args with
  |some ds=>match aL k ds with
   |some (.agg l)=>match jx cT l with
    |true=>az1 n t (env++l)
    |false=>az1 n e env
   |_=>none
  |none=>none
 |n+1,.br k args t e,env=>match aI (bR (lk env)) args with
  |some ds=>match aL k ds with
   |some (.bool true)=>az1 n t env
   |some (.bool false)=>az1 n e env
   |_=>none
  |none=>none
 |_+1,_,_=>none
def HK(f j:Nat)(us:a0e):List (List (Option xM)×DT)->DT
 |[]=> .stop
 |(p,t)::l=> .call f j us p t (HK f j us l)
def M4(o:a0d):List (List (Option xM)×DT)->Option DT
 |[]=>none
 |(p,t)::l=>match jx p o with
  |true=>some t
  |false=>M4 o l
def kal(ρ:a0e)(f j:Nat)(us:a0e)(l:List (List (Option xM)×DT)):DT:= .note ⟨.own 1,[.tuple ⟨ρ⟩,.tuple ⟨us⟩],J⟩ (HK f j us l)
def Rs(F:List FD)(i h:Nat):Option (DT×Nat):=match F[i]? with
 |some fd=>match fd.hs[h]?,fd.rF[h]? with
  |some s,some t=>some (t,s.m)
  |_,_=>none
 |none=>none
section
variable{F:List FD}{X:a0a}{i h:Nat}{t' e:DT}{k:NK}{args:a0e}{l9:a0d}
theorem wg:∀(n:Nat) {t:DT} {env:a0d},az1 n t env=some (t',l9)->Wp F X i t' l9 Q->Wp F X i t env Q
 |0,t,env,h,w=>by
  unfold az1 at h;cases h;exact w
 |n+1,.note nd t,env,h,w=>Wp.note (wg n h w)
 |n+1,.op k args t,env,h,w=>by
  unfold az1 at h;split at h
  ·rename_i h1;split at h
   ·rename_i h2;split at h
    ·rename_i h3;exact Wp.op h1 h2 h3 (wg n h w)
    ·cases h
   ·cases h
  ·cases h
 |n+1,.aV k args cT t e,env,h,w=>by
  unfold az1 at h;split at h
  ·rename_i h1;split at h
   ·rename_i h2;split at h
    ·rename_i h3;exact Wp.aV h1 h2 h3 (wg n h w)
    ·rename_i h3;exact Wp.opN h1 h2 h3 (wg n h w)
   ·cases h
  ·cases h
 |n+1,.br k args t e,env,h,w=>by
  unfold az1 at h;split at h
  ·rename_i h1;split at h
   ·rename_i h2;exact Wp.nV h1 h2 (wg n h w)
   ·rename_i h2;exact Wp.rG h1 h2 (wg n h w)
   ·cases h
  ·cases h
 |n+1,.sw ..,_,h,_=>by cases h
 |n+1,.call ..,_,h,_=>by cases h
 |n+1,.jump ..,_,h,_=>by cases h
 |n+1,.ret ..,_,h,_=>by cases h
 |n+1,.stop,_,h,_=>by cases h
theorem wo{d:D}(h1:aI (bR (lk env)) args=some ds)(h2:aL k ds=some d)(h4:Wp F X i t (env++[d]) Q)(h3:d.cell=true:=by exact rfl):Wp F X i (.op k args t) env Q:=Wp.op h1 h2 h3 h4
theorem wy{p:Prop}[Decidable p](h1:aI (bR (lk env)) args=some ds)(h2:aL k ds=some (.bool (decide p)))(h4:Wp F X i t env Q)(hp:p:=by omega):Wp F X i (.br k args t e) env Q:=Wp.dO h1 h2 hp h4
theorem wn{p:Prop}[Decidable p](h1:aI (bR (lk env)) args=some ds)(h2:aL k ds=some (.bool (decide p)))(h4:Wp F X i e env Q)(hp: ¬p:=by omega):Wp F X i (.br k args t e) env Q:=Wp.dF h1 h2 hp h4
theorem wL:∀{l:List (List (Option xM)×DT)},aI (aZ (lk env)) us=some ds->Rn F X j 0 ds (·=o)->M4 o l=some t->Wp F X i t (env++o) Q->Wp F X i (HK f j us l) env Q
 |[],_,_,h3,_=>by cases h3
 |(p,t')::l,h1,h2,h3,h4=>by
  unfold M4 at h3;split at h3
  ·rename_i hm;cases h3;exact Wp.jU h1 h2 hm h4
  ·rename_i hm;exact Wp.HL h1 h2 hm (wL h1 h2 h3 h4)
theorem wl{nd:Node}{l:List (List (Option xM)×DT)}(h1:aI (aZ (lk env)) us=some ds)(h2:Rn F X j 0 ds (·=o))(h3:M4 o l=some t)(h4:Wp F X i t (env++o) Q):Wp F X i (.note nd (HK f j us l)) env Q:=Wp.note (wL h1 h2 h3 h4)
theorem wR(h1:Rs F i h=some (t,m))(h2:ds.length=m)(h3:Wp F X i t ds Q):Rn F X i h ds Q:=by
 unfold Rs at h1;split at h1
 ·rename_i fd hi;split at h1
  ·rename_i s t' hs ht;cases h1;exact Rn.of hi hs ht h2 h3
  ·cases h1
 ·cases h1
theorem wr(h1:Rs F i h=some (t,m))(h3:Wp F X i t ds Q)(h2:ds.length=m:=by exact rfl):Rn F X i h ds Q:=wR h1 h2 h3
end
section
variable{F:List FD}{X:a0a}{i:Nat}
section
variable{a b c d e f g j k l m n o p q r s u v w x y z A B C E G H I J K L M N O P R S T U V W Y Z a1 b1 c1 d1 e1 f1 g1 j1 k1:D}
theorem w5(h:Wp F X i t [a,b,c,d,e] Q):Wp F X i t [a,b,c,d,e] Q:=h
theorem w6(h:Wp F X i t [a,b,c,d,e,f] Q):Wp F X i t [a,b,c,d,e,f] Q:=h
theorem w7(h:Wp F X i t [a,b,c,d,e,f,g] Q):Wp F X i t [a,b,c,d,e,f,g] Q:=h
theorem w8(h:Wp F X i t [a,b,c,d,e,f,g,j] Q):Wp F X i t [a,b,c,d,e,f,g,j] Q:=h
theorem w9(h:Wp F X i t [a,b,c,d,e,f,g,j,k] Q):Wp F X i t [a,b,c,d,e,f,g,j,k] Q:=h
theorem oq(h:Wp F X i t [a,b,c,d,e,f,g,j,k,l] Q):Wp F X i t [a,b,c,d,e,f,g,j,k,l] Q:=h
theorem dC(h:Wp F X i t [a,b,c,d,e,f,g,j,k,l,m] Q):Wp F X i t [a,b,c,d,e,f,g,j,k,l,m] Q:=h
theorem mg(h:Wp F X i t [a,b,c,d,e,f,g,j,k,l,m,n] Q):Wp F X i t [a,b,c,d,e,f,g,j,k,l,m,n] Q:=h
theorem mS(h:Wp F X i t [a,b,c,d,e,f,g,j,k,l,m,n,o] Q):Wp F X i t [a,b,c,d,e,f,g,j,k,l,m,n,o] Q:=h
theorem nL(h:Wp F X i t [a,b,c,d,e,f,g,j,k,l,m,n,o,p] Q):Wp F X i t [a,b,c,d,e,f,g,j,k,l,m,n,o,p] Q:=h
theorem ei(h:Wp F X i t [a,b,c,d,e,f,g,j,k,l,m,n,o,p,q] Q):Wp F X i t [a,b,c,d,e,f,g,j,k,l,m,n,o,p,q] Q:=h
theorem oT(h:Wp F X i t [a,b,c,d,e,f,g,j,k,l,m,n,o,p,q,r] Q):Wp F X i t [a,b,c,d,e,f,g,j,k,l,m,n,o,p,q,r] Q:=h
theorem hZ(h:Wp F X i t [a,b,c,d,e,f,g,j,k,l,m,n,o,p,q,r,s] Q):Wp F X i t [a,b,c,d,e,f,g,j,k,l,m,n,o,p,q,r,s] Q:=h
theorem Fe(h:Wp F X i t [a,b,c,d,e,f,g,j,k,l,m,n,o,p,q,r,s,u] Q):Wp F X i t [a,b,c,d,e,f,g,j,k,l,m,n,o,p,q,r,s,u] Q:=h
theorem gS(h:Wp F X i t [a,b,c,d,e,f,g,j,k,l,m,n,o,p,q,r,s,u,v] Q):Wp F X i t [a,b,c,d,e,f,g,j,k,l,m,n,o,p,q,r,s,u,v] Q:=h
theorem mf(h:Wp F X i t [a,b,c,d,e,f,g,j,k,l,m,n,o,p,q,r,s,u,v,w] Q):Wp F X i t [a,b,c,d,e,f,g,j,k,l,m,n,o,p,q,r,s,u,v,w] Q:=h
theorem jy(h:Wp F X i t [a,b,c,d,e,f,g,j,k,l,m,n,o,p,q,r,s,u,v,w,x] Q):Wp F X i t [a,b,c,d,e,f,g,j,k,l,m,n,o,p,q,r,s,u,v,w,x] Q:=h
theorem kj(h:Wp F X i t [a,b,c,d,e,f,g,j,k,l,m,n,o,p,q,r,s,u,v,w,x,y] Q):Wp F X i t [a,b,c,d,e,f,g,j,k,l,m,n,o,p,q,r,s,u,v,w,x,y] Q:=h
theorem qi(h:Wp F X i t [a,b,c,d,e,f,g,j,k,l,m,n,o,p,q,r,s,u,v,w,x,y,z] Q):Wp F X i t [a,b,c,d,e,f,g,j,k,l,m,n,o,p,q,r,s,u,v,w,x,y,z] Q:=h
theorem xR(h:Wp F X i t [a,b,c,d,e,f,g,j,k,l,m,n,o,p,q,r,s,u,v,w,x,y,z,A] Q):Wp F X i t [a,b,c,d,e,f,g,j,k,l,m,n,o,p,q,r,s,u,v,w,x,y,z,A] Q:=h
theorem xQ(h:Wp F X i t [a,b,c,d,e,f,g,j,k,l,m,n,o,p,q,r,s,u,v,w,x,y,z,A,B] Q):Wp F X i t [a,b,c,d,e,f,g,j,k,l,m,n,o,p,q,r,s,u,v,w,x,y,z,A,B] Q:=h
theorem om(h:Wp F X i t [a,b,c,d,e,f,g,j,k,l,m,n,o,p,q,r,s,u,v,w,x,y,z,A,B,C] Q):Wp F X i t [a,b,c,d,e,f,g,j,k,l,m,n,o,p,q,r,s,u,v,w,x,y,z,A,B,C] Q:=h
theorem jL(h:Wp F X i t [a,b,c,d,e,f,g,j,k,l,m,n,o,p,q,r,s,u,v,w,x,y,z,A,B,C,E] Q):Wp F X i t [a,b,c,d,e,f,g,j,k,l,m,n,o,p,q,r,s,u,v,w,x,y,z,A,B,C,E] Q:=h
theorem oR(h:Wp F X i t [a,b,c,d,e,f,g,j,k,l,m,n,o,p,q,r,s,u,v,w,x,y,z,A,B,C,E,G] Q):Wp F X i t [a,b,c,d,e,f,g,j,k,l,m,n,o,p,q,r,s,u,v,w,x,y,z,A,B,C,E,G] Q:=h
theorem MW(h:Wp F X i t [a,b,c,d,e,f,g,j,k,l,m,n,o,p,q,r,s,u,v,w,x,y,z,A,B,C,E,G,H] Q):Wp F X i t [a,b,c,d,e,f,g,j,k,l,m,n,o,p,q,r,s,u,v,w,x,y,z,A,B,C,E,G,H] Q:=h
theorem pH(h:Wp F X i t [a,b,c,d,e,f,g,j,k,l,m,n,o,p,q,r,s,u,v,w,x,y,z,A,B,C,E,G,H,I] Q):Wp F X i t [a,b,c,d,e,f,g,j,k,l,m,n,o,p,q,r,s,u,v,w,x,y,z,A,B,C,E,G,H,I] Q:=h
theorem ol(h:Wp F X i t [a,b,c,d,e,f,g,j,k,l,m,n,o,p,q,r,s,u,v,w,x,y,z,A,B,C,E,G,H,I,J] Q):Wp F X i t [a,b,c,d,e,f,g,j,k,l,m,n,o,p,q,r,s,u,v,w,x,y,z,A,B,C,E,G,H,I,J] Q:=h
theorem jn(h:Wp F X i t [a,b,c,d,e,f,g,j,k,l,m,n,o,p,q,r,s,u,v,w,x,y,z,A,B,C,E,G,H,I,J,K] Q):Wp F X i t [a,b,c,d,e,f,g,j,k,l,m,n,o,p,q,r,s,u,v,w,x,y,z,A,B,C,E,G,H,I,J,K] Q:=h
theorem MV(h:Wp F X i t [a,b,c,d,e,f,g,j,k,l,m,n,o,p,q,r,s,u,v,w,x,y,z,A,B,C,E,G,H,I,J,K,L,M] Q):Wp F X i t [a,b,c,d,e,f,g,j,k,l,m,n,o,p,q,r,s,u,v,w,x,y,z,A,B,C,E,G,H,I,J,K,L,M] Q:=h
theorem kF(h:Wp F X i t [a,b,c,d,e,f,g,j,k,l,m,n,o,p,q,r,s,u,v,w,x,y,z,A,B,C,E,G,H,I,J,K,L,M,N,O] Q):Wp F X i t [a,b,c,d,e,f,g,j,k,l,m,n,o,p,q,r,s,u,v,w,x,y,z,A,B,C,E,G,H,I,J,K,L,M,N,O] Q:=h
theorem Fc(h:Wp F X i t [a,b,c,d,e,f,g,j,k,l,m,n,o,p,q,r,s,u,v,w,x,y,z,A,B,C,E,G,H,I,J,K,L,M,N,O,P,R] Q):Wp F X i t [a,b,c,d,e,f,g,j,k,l,m,n,o,p,q,r,s,u,v,w,x,y,z,A,B,C,E,G,H,I,J,K,L,M,N,O,P,R] Q:=h
theorem mR(h:Wp F X i t [a,b,c,d,e,f,g,j,k,l,m,n,o,p,q,r,s,u,v,w,x,y,z,A,B,C,E,G,H,I,J,K,L,M,N,O,P,R,S,T] Q):Wp F X i t [a,b,c,d,e,f,g,j,k,l,m,n,o,p,q,r,s,u,v,w,x,y,z,A,B,C,E,G,H,I,J,K,L,M,N,O,P,R,S,T] Q:=h
theorem IB(h:Wp F X i t [a,b,c,d,e,f,g,j,k,l,m,n,o,p,q,r,s,u,v,w,x,y,z,A,B,C,E,G,H,I,J,K,L,M,N,O,P,R,S,T,U,V,W,Y,Z,a1,b1] Q):Wp F X i t [a,b,c,d,e,f,g,j,k,l,m,n,o,p,q,r,s,u,v,w,x,y,z,A,B,C,E,G,H,I,J,K,L,M,N,O,P,R,S,T,U,V,W,Y,Z,a1,b1] Q:=h
theorem MU(h:Wp F X i t [a,b,c,d,e,f,g,j,k,l,m,n,o,p,q,r,s,u,v,w,x,y,z,A,B,C,E,G,H,I,J,K,L,M,N,O,P,R,S,T,U,V,W,Y,Z,a1,b1,c1,d1] Q):Wp F X i t [a,b,c,d,e,f,g,j,k,l,m,n,o,p,q,r,s,u,v,w,x,y,z,A,B,C,E,G,H,I,J,K,L,M,N,O,P,R,S,T,U,V,W,Y,Z,a1,b1,c1,d1] Q:=h
theorem Cn(h:Wp F X i t [a,b,c,d,e,f,g,j,k,l,m,n,o,p,q,r,s,u,v,w,x,y,z,A,B,C,E,G,H,I,J,K,L,M,N,O,P,R,S,T,U,V,W,Y,Z,a1,b1,c1,d1,e1,f1] Q):Wp F X i t [a,b,c,d,e,f,g,j,k,l,m,n,o,p,q,r,s,u,v,w,x,y,z,A,B,C,E,G,H,I,J,K,L,M,N,O,P,R,S,T,U,V,W,Y,Z,a1,b1,c1,d1,e1,f1] Q:=h
theorem vd(h:Wp F X i t [a,b,c,d,e,f,g,j,k,l,m,n,o,p,q,r,s,u,v,w,x,y,z,A,B,C,E,G,H,I,J,K,L,M,N,O,P,R,S,T,U,V,W,Y,Z,a1,b1,c1,d1,e1,f1,g1] Q):Wp F X i t [a,b,c,d,e,f,g,j,k,l,m,n,o,p,q,r,s,u,v,w,x,y,z,A,B,C,E,G,H,I,J,K,L,M,N,O,P,R,S,T,U,V,W,Y,Z,a1,b1,c1,d1,e1,f1,g1] Q:=h
theorem MT(h:Wp F X i t [a,b,c,d,e,f,g,j,k,l,m,n,o,p,q,r,s,u,v,w,x,y,z,A,B,C,E,G,H,I,J,K,L,M,N,O,P,R,S,T,U,V,W,Y,Z,a1,b1,c1,d1,e1,f1,g1,j1,k1] Q):Wp F X i t [a,b,c,d,e,f,g,j,k,l,m,n,o,p,q,r,s,u,v,w,x,y,z,A,B,C,E,G,H,I,J,K,L,M,N,O,P,R,S,T,U,V,W,Y,Z,a1,b1,c1,d1,e1,f1,g1,j1,k1] Q:=h
end
theorem wt{ρ:a0g}{aN:a0e}(h1:aI (aZ (lk env)) us=some o)(h2:Q o):Wp F X i (.ret ρ aN us) env Q:=Wp.ret h1 h2
theorem wx{cT:List (Option xM)}{e:DT}{Q':a0d->Prop}(h1:aI (aZ (lk env)) us=some ds)(h2:Rn F X j 0 ds Q')(h3:∀o,Q' o->jx cT o=true/\Wp F X i t (env++o) Q):Wp F X i (.call f j us cT t e) env Q:=Wp.bA4 h1 h2 h3
theorem wj{h':Nat}{ρ:a0g}{aN:a0e}(h2:Rn F X i h' ds Q)(h1:aI (aZ (lk env)) us=some ds:=by exact rfl):Wp F X i (.jump h' m ρ aN us) env Q:=Wp.jump h1 h2
end
theorem oA{a:Nat}(h:a+1<=9223372036854775807:=by omega):aL (.bin .add c) [jD a,.int .i64 1]=some (jD (a+1)):=bm (b:=1) h
theorem oW{a:Nat}(h:1<=a:=by omega)(h2:a<=9223372036854775807:=by omega):aL (.bin .sub c) [jD a,.int .i64 1]=some (jD (a - 1)):=eW (b:=1) h h2
theorem oP{es bys:Nat}{rows:a0b}{row:a0d}(h2:(rows.length+1)*bys<=140737488355328:=by omega)(h1:rows.length+1<=9223372036854775807:=by omega)(hl:row.length=es:=by exact rfl)(hc:row.all D.cell=true:=by exact rfl):aL (.app es bys) [.sl rows,.sl [row]]=some (.sl (rows++[row])):=gD hl hc h2 h1
theorem oI{a b:Int}(h1: -9223372036854775808<=a+b:=by omega)(h2:a+b<=9223372036854775807:=by omega):aL (.bin .add c) [.int .i64 a,.int .i64 b]=some (.int .i64 (a+b)):=Ym h1 h2
theorem oC{k:xO}{n:Nat}(h:n<=9223372036854775807:=by omega):aL (.mv .i64) [.int k (n:Nat)]=some (jD n):=Ed h
end
end Go.Ex
namespace Go.T
open Go Go.Ex Go.RowKit
abbrev i(n:Int):xM:= .int .i64 n
abbrev y(n:Int):xM:= .int .u8 n
abbrev u:xM:= .bool true
abbrev v:xM:= .bool false
abbrev s(l:a0h):xM:= .string ⟨⟨l⟩⟩
abbrev x:xM:= .string ⟨⟨[]⟩⟩
def bC1(body:FuncId->Code)(f n k:Nat)(rs:List ResultVar)(sg:io)(m:Nat)(hs:List (Nat×kg×Nat))(ds:List DT):FD:=
 ⟨f,n,k,rs,sg,⟨[.code (body f)],⟨wX sg.args,sg.hp⟩,m⟩::hs.map (fun h=>⟨match Nat.ble 50 h.1 with|true=>aft (((heads (body f) [])[h.1 - 50]?).getD [])|false=>((heads (body f) [])[h.1]?).getD [],h.2.1,h.2.2⟩),ds⟩
end Go.T
