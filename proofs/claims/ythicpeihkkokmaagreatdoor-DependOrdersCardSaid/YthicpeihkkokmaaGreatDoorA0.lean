/- Steps of programs on data. -/
import Derived.Test.YthicpeihkkokmaaGreatDoorX10
import Derived.IntWalk
set_option linter.unusedVariables false
set_option linter.unusedSimpArgs false
namespace Go.Ex
variable{c a b n es bys:Nat}{k:xO}{rows:Ca}{row env:Di}{Q:Di->Prop}{args:C3}{t e:DT}{α:Type}
open Go.RowKit
theorem zM(k:xO):dR k k=true:=by cases k<;>rfl
section
variable{a b:Int}
theorem ay:aF (.bin .eql c) [.int k a,.int k b]=some (.bool (decide (a=b))):=by
 show ofInt (bs (dR k k) (rb .eql k a b) none)=_;rw[zM];show some (D.bool (mC a b))=_;rw[oU]
theorem gG:aF (.bin .neq c) [.int k a,.int k b]=some (.bool (decide (a≠b))):=by
 show ofInt (bs (dR k k) (rb .neq k a b) none)=_;rw[zM];show some (D.bool (not (mC a b)))=_;rw[oU];simp
theorem af:aF (.bin .lss c) [.int k a,.int k b]=some (.bool (decide (a<b))):=by
 show ofInt (bs (dR k k) (rb .lss k a b) none)=_;rw[zM];show some (D.bool (kL a b))=_;rw[oT]
theorem bZ:aF (.bin .gtr c) [.int k a,.int k b]=some (.bool (decide (b<a))):=by
 show ofInt (bs (dR k k) (rb .gtr k a b) none)=_;rw[zM];show some (D.bool (kL b a))=_;rw[oT]
theorem ke:aF (.bin .leq c) [.int k a,.int k b]=some (.bool (decide (a<=b))):=by
 show ofInt (bs (dR k k) (rb .leq k a b) none)=_;rw[zM];show some (D.bool (not (kL b a)))=_;rw[oT,MD]
theorem eP:aF (.bin .geq c) [.int k a,.int k b]=some (.bool (decide (b<=a))):=by
 show ofInt (bs (dR k k) (rb .geq k a b) none)=_;rw[zM];show some (D.bool (not (kL a b)))=_;rw[oT,MD]
theorem jk{a b:EH}:aF (.bin .eql c) [.str a,.str b]=some (.bool (decide (a=b))):=rfl
end
abbrev jD(n:Nat):D:= .int .i64 (n:Nat)
theorem bg(h:a+b<=9223372036854775807):aF (.bin .add c) [jD a,jD b]=some (jD (a+b)):=by
 show some (D.int .i64 (fR .i64 ((a:Int)+(b:Int))))=_;rw[lA,IntWalk.i64_in _ MK];rfl
theorem Xe{a b:Int}(h1: -9223372036854775808<=a+b)(h2:a+b<=9223372036854775807):aF (.bin .add c) [.int .i64 a,.int .i64 b]=some (.int .i64 (a+b)):=by
 show some (D.int .i64 (fR .i64 (a+b)))=_;rw[lA,IntWalk.i64_in _ MK]
theorem rQ{a b:Int}(h1: -9223372036854775808<=a - b)(h2:a - b<=9223372036854775807):aF (.bin .sub c) [.int .i64 a,.int .i64 b]=some (.int .i64 (a - b)):=by
 show some (D.int .i64 (fR .i64 (a - b)))=_;rw[lA,IntWalk.i64_in _ MK]
theorem eO(h:b<=a)(h2:a<=9223372036854775807):aF (.bin .sub c) [jD a,jD b]=some (jD (a - b)):=by
 rw[rQ MK MK];congr 2;omega
theorem ka(k:xO)(h:1<=b):aF (.bin .rem c) [.int k (a:Nat),.int k (b:Nat)]=some (.int k ((a%b:Nat):Int)):=by
 show ofInt (bs (dR k k) (rb .rem k a b) none)=_;rw[zM];show ofInt (bs (mC (b:Int) 0) none (some (.int k (Int.tmod a b))))=_;rw[oU,decide_eq_false MK];show some (D.int k (Int.tmod a b))=_
 congr 2
theorem vj(h:1<=b)(h2:a<=9223372036854775807):aF (.bin .quo c) [jD a,jD b]=some (jD (a/b)):=by
 show ofInt (bs (mC (b:Int) 0) none (some (.int .i64 (fR .i64 (Int.tdiv a b)))))=_;rw[oU,decide_eq_false MK];show some (D.int .i64 (fR .i64 (Int.tdiv a b)))=_;have:a/b<=a:=Nat.div_le_self a b;have h3:Int.tdiv (a:Int) (b:Int)=((a/b:Nat):Int):=rfl;rw[h3,lA,IntWalk.i64_in _ ⟨by exact Int.le_trans Pp (Int.natCast_nonneg _),MK⟩]
theorem rT(h2:a*b<=9223372036854775807):aF (.bin .mul c) [jD a,jD b]=some (jD (a*b)):=by
 show some (D.int .i64 (fR .i64 ((a:Int)*(b:Int))))=_;have h3:(a:Int)*(b:Int)=((a*b:Nat):Int):=NS
 rw[h3,lA,IntWalk.i64_in _ MK]
theorem Ai(h:n<=9223372036854775807):aF (.kS .i64) [.int k (n:Nat)]=some (jD n):=by
 show some (D.int .i64 (IntKind.i64.wrap n))=_;rw[IntWalk.i64_in _ MK]
theorem yf(h:n<=255):aF (.kS .u8) [.int k (n:Nat)]=some (.int .u8 (n:Nat)):=by
 show some (D.int .u8 (IntKind.u8.wrap n))=_;rw[IntWalk.u8_in _ MK]
theorem bc:aF .sj [.sl rows]=some (jD rows.length):=rfl
theorem ax{m:Nat}(h:rows[m]? =some row)(hl:row.length=es):aF (.tY es) [.sl rows,jD m]=some (.ptr row 0):=by
 show(rows[m]?).bind _=_;rw[h];show(if row.length=es then _ else _)=_;rw[if_pos hl]
theorem Jh(h:a<=rows.length)(hl:∀row∈rows,row.length=es):aF (.pR es) [.sl rows,jD a]=some (.sl (rows.drop a)):=by
 show(if a<=rows.length/\rows.length<=rows.length/\(a=0\/Fq rows es=true) then some (D.sl ((rows.drop a).take (rows.length - a))) else none)=_;rw[if_pos ⟨h,xk _,.inr (by cases rows with|nil=>rfl|cons r l=>simp[Fq,hl r xn])⟩];rw[List.take_of_length_le NS]
theorem mW(h:b<=rows.length):aF (.pR es) [.sl rows,jD 0,jD b]=some (.sl (rows.take b)):=by
 show(if 0<=b/\b<=rows.length/\(0=0\/Fq rows es=true) then some (D.sl ((rows.drop 0).take (b - 0))) else none)=_;rw[if_pos ⟨xL _,h,.inl rfl⟩];rfl
theorem yg{q:Ca}(hq:∀row∈q,row.length=es/\row.all D.cell=true)(h1:rows.length+q.length<=9223372036854775807)(h2:(rows.length+q.length)*bys<=140737488355328):aF (.app es bys) [.sl rows,.sl q]=some (.sl (rows++q)):=by
 show(if q.all (fun r=>r.length==es&&r.all D.cell) then some q else none).bind (fun q=>if mX (rows.length+q.length) bys then some (D.sl (rows++q)) else none)=_;rw[if_pos (List.all_eq_true.2 fun r hr=>by simp[(hq r hr).1,(hq r hr).2])];show(if mX _ bys then _ else _)=_;rw[if_pos (by simp[mX,h1,h2])]
theorem gb(hl:row.length=es)(hc:row.all D.cell=true)(h2:(rows.length+1)*bys<=140737488355328)(h1:rows.length+1<=9223372036854775807):aF (.app es bys) [.sl rows,.sl [row]]=some (.sl (rows++[row])):=
 yg (q:=[row]) (fun r hr=>by rw[xy] at hr;subst hr;exact⟨hl,hc⟩) h1 h2
theorem aO3(ha:a<256)(hb:b<256):aF .strOf [.int .u8 (a:Nat),.int .u8 (b:Nat)]=some (.str [a.toUInt8,b.toUInt8]):=by
 show(if a<256 then(if b<256 then some [b.toUInt8] else none:Option (List UInt8)).map (fun r=>a.toUInt8::r) else none:Option (List UInt8)).map D.str=_;rw[if_pos ha,if_pos hb];rfl
section
variable{F:List FD}{X:Bv}{i h:Nat}{ds:Di}
theorem Wp.dt{k:NK}{p:Prop}[Decidable p](h1:aH (bR (lk env)) args=some ds)(h2:aF k ds=some (.bool (decide p)))(hp:p)(h4:Wp F X i t env Q):Wp F X i (.br k args t e) env Q:=Wp.nz h1 (by rw[h2,decide_eq_true hp]) h4
theorem Wp.c8{k:NK}{p:Prop}[Decidable p](h1:aH (bR (lk env)) args=some ds)(h2:aF k ds=some (.bool (decide p)))(hp: ¬p)(h4:Wp F X i e env Q):Wp F X i (.br k args t e) env Q:=Wp.qQ h1 (by rw[h2,decide_eq_false hp]) h4
theorem Wp.br8{f j:Nat}{us:C3}{cR:List (Option xM)}{Q':Di->Prop}(h1:aH (aX (lk env)) us=some ds)(h2:Rn F X j 0 ds Q')(h3:∀o,Q' o->jc cR o=true/\Wp F X i t (env++o) Q):Wp F X i (.call f j us cR t e) env Q:=
 Wp.call h1 h2 fun o q=> .inl (h3 o q)
end
theorem qj{k:Nat}:aF .iO [jD n,jD k]=some (.bool (decide (k<n))):=rfl
theorem Yn{k:Nat}:aF .iO [.sl rows,jD k]=some (.bool (decide (k<rows.length))):=rfl
theorem Fk{off k:Nat}{d:D}{b:Bool}(h:rows[k]? =some row)(hp:yd row off n b=some d):aF (.pD off n b) [.sl rows,jD k]=some d:=by
 show(rows[k]?).bind _=_;rw[h];exact hp
theorem aX2:aF .mx [.int k (a:Nat),.int k (b:Nat)]=some (.int k ((max a b:Nat):Int)):=by
 show some (D.int k (if(a:Int)<b then(b:Int) else a))=_
 congr 2
 split<;>omega
theorem aX1:aF .mx [.int k (a:Nat),.int k (b:Nat),.int k (c:Nat)]=some (.int k ((max (max a b) c:Nat):Int)):=by
 show some (D.int k (if(if(a:Int)<b then(b:Int) else a)<c then(c:Int) else(if(a:Int)<b then(b:Int) else a)))=_
 congr 2
 split<;>split<;>omega
theorem dH{a b:EH}(h:a.length+b.length<=9223372036854775807):aF (.bin .add c) [.str a,.str b]=some (.str (a++b)):=by
 show(if a.length+b.length<=9223372036854775807 then some (D.str (a++b)) else none)=_;rw[if_pos h]
theorem kK(a:α)(l:List α):List.take 1 (List.drop 0 (a::l))=[a]:=rfl
theorem kJ(a b:α)(l:List α):List.take 2 (List.drop 0 (a::b::l))=[a,b]:=rfl
theorem kI(a b c:α)(l:List α):List.take 3 (List.drop 0 (a::b::c::l))=[a,b,c]:=rfl
theorem kH(a b c d:α)(l:List α):List.take 4 (List.drop 0 (a::b::c::d::l))=[a,b,c,d]:=rfl
theorem kG(a b c d e f:α)(l:List α):List.take 6 (List.drop 0 (a::b::c::d::e::f::l))=[a,b,c,d,e,f]:=rfl
def l6(k:xO)(d:D):Prop:=∃n:Nat,d= .int k (.ofNat n)/\n<mk k
abbrev sH:=List (NK×List xM)
def F0(l:sH)(t:DT):DT:=l.foldr (fun x t=> .op x.1 x.2 t) t
noncomputable def vT(K:T (Option xO))(v:xM):Option xO:=
 match v with
 | .chan (some (c+1))=>K.get none c
 | .int k (.ofNat n)=>bs (Nat.blt n (mk k)) (some k) none
 |_=>none
noncomputable def J7(K:T (Option xO))(k:NK)(args:C3):Option xO:=
 match k,args with
 | .bin op _,[x,y]=>match vT K x,vT K y with
  |some a,some b=>match op with
   | .add=>bs (dR a b&& !a.signed) (some a) none
   | .sub=>bs (dR a b&& !a.signed) (some a) none
   | .and=>bs (dR a b&& !a.signed) (some a) none
   | .or=>bs (dR a b&& !a.signed) (some a) none
   | .xor=>bs (dR a b&& !a.signed) (some a) none
   | .shl=>bs a.signed none (some a)
   | .shr=>bs a.signed none (some a)
   |_=>none
  |_,_=>none
 | .un .xor,[x]=>match vT K x with|some a=>bs a.signed none (some a)|none=>none
 | .kS k',[x]=>match vT K x with|some _=>bs k'.signed none (some k')|none=>none
 |_,_=>none
noncomputable def tN(l:sH):T (Option xO)->Nat->Option (T (Option xO)×Nat):=
 List.rec (motive:=fun _=>T (Option xO)->Nat->Option (T (Option xO)×Nat)) (fun K n=>some (K,n))
  (fun x _ ih K n=>match J7 K x.1 x.2 with|some r=>ih (K.set n (some r)) (Nat.succ n)|none=>none) l
theorem CF(hs:k.signed=false)(n:Int):∃m:Nat,fR k n= .ofNat m/\m<mk k:=by
 unfold fR;have hr:∀r:Nat,r<mk k->∃m:Nat,bs (Nat.ble (hk k) r) (Int.negSucc (Nat.sub (Nat.sub (mk k) r) 1)) (Int.ofNat r)= .ofNat m/\m<mk k:=fun r h=>by
  have e:hk k=mk k:=by cases k<;>first|rfl|(exact absurd hs Pp)
  have hb:Nat.ble (hk k) r=false:=by
   cases hq:Nat.ble (hk k) r with
   |false=>rfl
   |true=>have:=xh hq;omega
  rw[hb];exact⟨r,rfl,h⟩
 have La:0<mk k:=by cases k<;>decide
 cases n with
 |ofNat m=>exact hr _ (Nat.mod_lt _ La)
 |negSucc m=>exact hr _ (by show mk k - 1 - m%mk k<mk k;omega)
theorem ba8(h:n<mk k)(p:Nat):∃m:Nat,Int.fdiv (.ofNat n) (.ofNat p)= .ofNat m/\m<mk k:=by
 refine⟨n/p,?_,Nat.lt_of_le_of_lt (Nat.div_le_self n p) h⟩;cases n with
 |zero=>simp
 |succ n=>rfl
theorem Lz{op:BinOp}(hs:k.signed=false)(dY:op= .and\/op= .or\/op= .xor)(a b:Nat):∃m:Nat,pN op k (.ofNat a) (.ofNat b)=some (.ofNat m)/\m<mk k:=by
 rcases dY with rfl|rfl|rfl
 all_goals
  unfold pN;simp only
  first
   |(obtain⟨m,h1,h2⟩:=CF hs (Int.ofNat (Nat.land (Nat.mod a (mk k)) (Nat.mod b (mk k))));exact⟨m,by rw[h1],h2⟩)
   |(obtain⟨m,h1,h2⟩:=CF hs (Int.ofNat (Nat.lor (Nat.mod a (mk k)) (Nat.mod b (mk k))));exact⟨m,by rw[h1],h2⟩)
   |(obtain⟨m,h1,h2⟩:=CF hs (Int.ofNat (Nat.xor (Nat.mod a (mk k)) (Nat.mod b (mk k))));exact⟨m,by rw[h1],h2⟩)
section
variable{K:T (Option xO)}(he:∀c k,K.get none c=some k->∃d,env[c]? =some d/\l6 k d)
include he
theorem Jv{v:xM}(h:vT K v=some k):∃n:Nat,bR (lk env) v=some (.int k (.ofNat n))/\n<mk k:=by
 unfold vT at h;split at h
 ·rename_i c;obtain⟨d,h1,n,rfl,h3⟩:=he c k h;refine⟨n,?_,h3⟩;show(env[c]?).bind _=_;rw[h1];rfl
 ·rename_i k0 n;rcases aC h with⟨h1,h2⟩|⟨_,h2⟩<;>cases h2
  exact⟨n,rfl,xh h1⟩
 ·cases h
theorem aC5{k:NK}{r:xO}(h:J7 K k args=some r):∃ds d,aH (bR (lk env)) args=some ds/\aF k ds=some d/\l6 r d:=by
 unfold J7 at h;split at h
 ·rename_i op c x y;split at h
  ·rename_i a b ha hb;obtain⟨n,e1,e2⟩:=Jv he ha;obtain⟨m,e3,e4⟩:=Jv he hb;have ii:aH (bR (lk env)) [x,y]=some [.int a (.ofNat n),.int b (.ofNat m)]:=by simp only [aH,e1,e3]
   have hm:kL (Int.ofNat m) 0=false:=by rw[oT];exact decide_eq_false NS
   have Dy:∀(q:Bool),bs (dR a b&& !a.signed) (some a) none=some r->a=b/\a.signed=false/\r=a:=fun _ h=>by
    rcases aC h with⟨h1,h2⟩|⟨_,h2⟩<;>cases h2
    rw[xf] at h1;exact⟨qg h1.1,by simpa using h1.2,rfl⟩
   have wr:∀(x:Int),r=a->a.signed=false->∃d,some (D.int a (fR a x))=some d/\l6 r d:=fun x h1 h2=>by
    obtain⟨q,q1,q2⟩:=CF h2 x;exact⟨_,rfl,q,by rw[q1,h1],by rw[h1];exact q2⟩
   split at h
   ·obtain⟨rfl,hs,rfl⟩:=Dy true h;obtain⟨d,h1,h2⟩:=wr (Int.add (.ofNat n) (.ofNat m)) rfl hs;refine⟨_,d,ii,?_,h2⟩;rw[<-h1];show ofInt (bs (dR r r) (rb .add r _ _) none)=_;rw[show dR r r=true by cases r<;>rfl];rfl
   ·obtain⟨rfl,hs,rfl⟩:=Dy true h;obtain⟨d,h1,h2⟩:=wr (Int.sub (.ofNat n) (.ofNat m)) rfl hs;refine⟨_,d,ii,?_,h2⟩;rw[<-h1];show ofInt (bs (dR r r) (rb .sub r _ _) none)=_;rw[show dR r r=true by cases r<;>rfl];rfl
   ·obtain⟨rfl,hs,rfl⟩:=Dy true h;obtain⟨q,q1,q2⟩:=Lz (op:= .and) hs (.inl rfl) n m;refine⟨_,.int r (.ofNat q),ii,?_,q,rfl,q2⟩;show ofInt (bs (dR r r) ((pN .and r (.ofNat n) (.ofNat m)).map (Value.int r)) none)=_;rw[show dR r r=true by cases r<;>rfl,q1];rfl
   ·obtain⟨rfl,hs,rfl⟩:=Dy true h;obtain⟨q,q1,q2⟩:=Lz (op:= .or) hs (.inr (.inl rfl)) n m;refine⟨_,.int r (.ofNat q),ii,?_,q,rfl,q2⟩;show ofInt (bs (dR r r) ((pN .or r (.ofNat n) (.ofNat m)).map (Value.int r)) none)=_;rw[show dR r r=true by cases r<;>rfl,q1];rfl
   ·obtain⟨rfl,hs,rfl⟩:=Dy true h;obtain⟨q,q1,q2⟩:=Lz (op:= .xor) hs (.inr (.inr rfl)) n m;refine⟨_,.int r (.ofNat q),ii,?_,q,rfl,q2⟩;show ofInt (bs (dR r r) ((pN .xor r (.ofNat n) (.ofNat m)).map (Value.int r)) none)=_;rw[show dR r r=true by cases r<;>rfl,q1];rfl
   ·rcases aC h with⟨_,h2⟩|⟨hs,h2⟩<;>cases h2
    obtain⟨q,q1,q2⟩:=CF hs (Int.mul (.ofNat n) (.ofNat (Nat.pow 2 (Nat.min (Int.toNat (.ofNat m)) r.bits))));refine⟨_,.int r (.ofNat q),ii,?_,q,rfl,q2⟩;show ofInt (bs (kL (.ofNat m) 0) none (some (.int r (fR r _))))=_;rw[hm,q1];rfl
   ·rcases aC h with⟨_,h2⟩|⟨hs,h2⟩<;>cases h2
    obtain⟨q,q1,q2⟩:=ba8 e2 (Nat.pow 2 (Nat.min (Int.toNat (.ofNat m)) r.bits));refine⟨_,.int r (.ofNat q),ii,?_,q,rfl,q2⟩;show ofInt (bs (kL (.ofNat m) 0) none (some (.int r _)))=_;rw[hm,q1];rfl
   ·cases h
  ·cases h
 ·rename_i x;split at h
  ·rename_i a ha;rcases aC h with⟨_,h2⟩|⟨hs,h2⟩<;>cases h2
   obtain⟨n,e1,e2⟩:=Jv he ha;obtain⟨q,q1,q2⟩:=Lz (op:= .xor) hs (.inr (.inr rfl)) (Nat.sub (mk r) 1) n;refine⟨[.int r (.ofNat n)],.int r (.ofNat q),by simp only [aH,e1],?_,q,rfl,q2⟩;show(if r.signed=true then none else(pN .xor r (.ofNat (Nat.sub (mk r) 1)) (.ofNat n)).map (D.int r))=_;rw[hs,q1];rfl
  ·cases h
 ·rename_i k' x;split at h
  ·rename_i a ha;rcases aC h with⟨_,h2⟩|⟨hs,h2⟩<;>cases h2
   obtain⟨n,e1,e2⟩:=Jv he ha;obtain⟨q,q1,q2⟩:=CF hs (Int.ofNat n);refine⟨[.int a (.ofNat n)],.int r (.ofNat q),by simp only [aH,e1],?_,q,rfl,q2⟩;show some (D.int r (r.wrap _))=_;rw[<-lA,q1]
  ·cases h
 ·cases h
end
section
variable{F:List FD}{X:Bv}{i:Nat}
theorem zX:∀(l:sH) (K K':T (Option xO)) (n n':Nat) (env:Di),env.length=n->(∀c k,K.get none c=some k->∃d,env[c]? =some d/\l6 k d)->tN l K n=some (K',n')->
 (∀new:Di,(env++new).length=n'->(∀c k,K'.get none c=some k->∃d,(env++new)[c]? =some d/\l6 k d)->Wp F X i t (env++new) Q)->Wp F X i (F0 l t) env Q
 |[],K,K',n,n',env,hn,he,h,hc=>by
  cases h;have:=hc [] (by simpa using hn) (by simpa using he);rw[xj] at this;exact this
 |x::l,K,K',n,n',env,hn,he,h,hc=>by
  have h':(match J7 K x.1 x.2 with|some r=>tN l (K.set n (some r)) (n+1)|none=>none)=some (K',n'):=h;split at h'
  ·rename_i r hr;obtain⟨ds,d,h1,h2,h3⟩:=aC5 he hr;have iP:d.cell=true:=by obtain⟨m,rfl,_⟩:=h3;rfl
   refine Wp.op h1 h2 iP ?_;refine zX l (K.set n (some r)) K' (n+1) n' (env++[d]) (by simp[hn]) (fun c k nu=> ?_) h' fun new q1 q2=> ?_
   ·by_cases sZ:n=c
    ·subst sZ;rcases T.tz none K n (some r) with e|⟨e,_⟩
     ·rw[e] at nu;cases nu;exact⟨d,by rw[xq MK];simp[hn],h3⟩
     ·rw[e] at nu;cases nu
    ·rw[T.tA none K n c _ sZ] at nu;obtain⟨d',e1,e2⟩:=he c k nu;have:=(xe.1 e1).1;exact⟨d',by rw[xw this];exact e1,e2⟩
   ·have:=hc (d::new) (by simpa using q1) (by simpa using q2);rw[List.append_assoc];exact this
  ·cases h'
end
abbrev bn(op:BinOp)(x y:xM):NK×C3:=(.bin op 0,[x,y])
abbrev u6(n:Nat):xM:= .int .u64 (.ofNat n)
def uq(x n c:Nat):sH:=[bn .shl (cd x) (u6 (32 - n)),bn .shr (cd x) (u6 n),bn .or (cd c) (cd (c+1))]
def ldW(x c:Nat):sH:=[(.kS .u32,[cd x]),bn .shl (cd c) (u6 24),(.kS .u32,[cd (x+1)]),bn .shl (cd (c+2)) (u6 16),bn .or (cd (c+1)) (cd (c+3)),(.kS .u32,[cd (x+2)]),bn .shl (cd (c+5)) (u6 8),bn .or (cd (c+4)) (cd (c+6)),(.kS .u32,[cd (x+3)]),bn .or (cd (c+7)) (cd (c+8))]
def wC(i:Nat):Nat:=if i<16 then 155+10*i else 326+21*(i - 16)
def exW(x y p q c:Nat):sH:=uq x 7 c++uq x 18 (c+3)++[bn .xor (cd (c+2)) (cd (c+5)),bn .shr (cd x) (u6 3),bn .xor (cd (c+6)) (cd (c+7))]++uq y 17 (c+9)++uq y 19 (c+12)++[bn .xor (cd (c+11)) (cd (c+14)),bn .shr (cd y) (u6 10),bn .xor (cd (c+15)) (cd (c+16)),bn .add (cd p) (cd (c+8)),bn .add (cd (c+18)) (cd q),bn .add (cd (c+19)) (cd (c+17))]
def rnd(a b c d e f g h w r:Nat)(k:xM):sH:=
 [bn .and (cd e) (cd f),(.un .xor,[cd e]),bn .and (cd (r+1)) (cd g),bn .xor (cd r) (cd (r+2))]++uq e 6 (r+4)++uq e 11 (r+7)++[bn .xor (cd (r+6)) (cd (r+9))]++uq e 25 (r+11)++[bn .xor (cd (r+10)) (cd (r+13)),bn .add (cd h) (cd (r+14)),bn .add (cd (r+15)) (cd (r+3)),bn .add (cd (r+16)) k,bn .add (cd (r+17)) (cd w)]++
 uq a 2 (r+19)++uq a 13 (r+22)++[bn .xor (cd (r+21)) (cd (r+24))]++uq a 22 (r+26)++[bn .xor (cd (r+25)) (cd (r+28)),bn .and (cd a) (cd b),bn .and (cd a) (cd c),bn .xor (cd (r+30)) (cd (r+31)),bn .and (cd b) (cd c),bn .xor (cd (r+32)) (cd (r+33)),bn .add (cd (r+29)) (cd (r+34)),bn .add (cd (r+18)) (cd (r+35)),bn .add (cd d) (cd (r+18))]
def ab3:C3->(a b c d e f g h t r:Nat)->sH
 |[],a,b,c,d,e,f,g,h,_,_=>[bn .add (cd 1) (cd a),bn .add (cd 2) (cd b),bn .add (cd 3) (cd c),bn .add (cd 4) (cd d),bn .add (cd 5) (cd e),bn .add (cd 6) (cd f),bn .add (cd 7) (cd g),bn .add (cd 8) (cd h)]
 |k::l,a,b,c,d,e,f,g,h,t,r=>rnd a b c d e f g h (wC t) r k++ab3 l (r+36) a b c (r+37) e f g (t+1) (r+38)
def GV(kc:C3):sH:=(List.range 16).flatMap (fun i=>ldW (78+4*i) (146+10*i))++(List.range 48).flatMap (fun i=>exW (wC (i+1)) (wC (i+14)) (wC i) (wC (i+9)) (306+21*i))++ab3 kc 1 2 3 4 5 6 7 8 0 1314
def Ie(b:Option aG):C3:=match b with|some ⟨.cells cs,_,_,_,_⟩=>cs|_=>[]
end Go.Ex
namespace Go.Fl
open Go.Ex
abbrev aq:=EH
abbrev L5:=List aq
abbrev iD(n:Nat):D:= .int .i64 (n:Nat)
abbrev bD(n:Nat):D:= .int .u8 (n:Nat)
inductive Ex where|mk (op:Nat) (name:aq) (n:Nat) (args:List Ex)
inductive St where|mk (kind:Nat) (name cf:aq) (bf:List Ex) (th el:List St)
abbrev JH:=List St
structure Hn where
 name:aq
 params:L5
 body:JH
abbrev Mm:=List (List Hn)
structure Vr where
 name:aq
 type:Nat
 init:Nat
structure Cm where
 name:aq
 vars:List Vr
 aS:Mm
structure Fg where
 name:aq
 init:Bool
structure Lk where
 src:aq
 dst:aq
 y0:Nat
structure dj where
 name:aq
 flags:List Fg
 links:List Lk
 comps:List Cm
mutual
def Ex.r:Ex->Di| .mk op name n args=>[iD op,.str name,iD n,.sl (Ex.rs args)]
def Ex.rs:List Ex->List (List D)|[]=>[]|e::l=>Ex.r e::Ex.rs l
end
mutual
def St.r:St->Di| .mk kind name cf bf th el=>[iD kind,.str name,.str cf,.sl (Ex.rs bf),.sl (St.rs th),.sl (St.rs el)]
def St.rs:List St->List (List D)|[]=>[]|e::l=>St.r e::St.rs l
end
mutual
def Ex.s:Ex->Di| .mk op name n args=>[bD op,.str name,iD n,.sl (Ex.ss args)]
def Ex.ss:List Ex->List (List D)|[]=>[]|e::l=>Ex.s e::Ex.ss l
end
mutual
def St.s:St->Di| .mk kind name cf bf th el=>[bD kind,.str name,.str cf,.sl (Ex.ss bf),.sl (St.ss th),.sl (St.ss el)]
def St.ss:List St->List (List D)|[]=>[]|e::l=>St.s e::St.ss l
end
def strs(l:L5):Ca:=l.map fun p=>[.str p]
def Hn.r(h:Hn):Di:=[.str h.name,.sl (strs h.params),.sl (St.rs h.body)]
def Hn.s(h:Hn):Di:=[.str h.name,.sl (strs h.params),.sl (St.ss h.body)]
def Vr.r(v:Vr):Di:=[.str v.name,iD v.type,iD v.init]
def Vr.s(v:Vr):Di:=[.str v.name,bD v.type,iD v.init]
def Cm.r(c:Cm):Di:=[.str c.name,.sl (c.vars.map Vr.r),.sl (c.aS.map fun l=>[.sl (l.map Hn.r)])]
def Cm.s(c:Cm):Di:=[.str c.name,.sl (c.vars.map Vr.s),.sl (c.aS.map fun l=>[.sl (l.map Hn.s)])]
def Fg.d(f:Fg):Di:=[.str f.name,.bool f.init]
def Lk.d(l:Lk):Di:=[.str l.src,.str l.dst,iD l.y0]
def dj.r(f:dj):Di:=[.str f.name,.sl (f.flags.map Fg.d),.sl (f.links.map Lk.d),.sl (f.comps.map Cm.r)]
def dj.s(f:dj):Di:=[.str f.name,.sl (f.flags.map Fg.d),.sl (f.links.map Lk.d),.sl (f.comps.map Cm.s)]
def nm(c:Nat)(k:Nat):aq:=[c.toUInt8,(48+k).toUInt8]
structure Sc where
 ints:Nat
 tables:Nat
 flags:Nat
 params:Nat
inductive fD (c:Sc):Nat->Ex->Prop where
 |num {d:Nat} (n:Nat) (h:n<=8):fD c d (.mk 1 [] n [])
 |var {d:Nat} (k:Nat) (h:k<c.ints):fD c d (.mk 5 (nm 120 k) 0 [])
 |lW {d:Nat} (k:Nat) (h:k<c.params):fD c d (.mk 5 (nm 112 k) 0 [])
 |now {d:Nat}:fD c d (.mk 4 [] 0 [])
 |get {d:Nat} (h:0<c.tables) {e:Ex} (he:fD c d e):fD c (d+1) (.mk 6 (nm 116 0) 0 [e])
 |size {d:Nat} (h:0<c.tables):fD c d (.mk 8 (nm 116 0) 0 [])
 |neg {d:Nat} {e:Ex} (he:fD c d e):fD c (d+1) (.mk 9 [] 0 [e])
 |bin {d:Nat} (op:Nat) (h1:11<=op) (h2:op<=15) {a b:Ex} (ha:fD c d a) (hb:fD c d b):fD c (d+1) (.mk op [] 0 [a,b])
inductive jS (c:Sc):Nat->Ex->Prop where
 |lit {d:Nat} (op:Nat) (h1:2<=op) (h2:op<=3):jS c d (.mk op [] 0 [])
 |b0 {d:Nat}:jS c d (.mk 5 (nm 98 0) 0 [])
 |flag {d:Nat} (k:Nat) (h:k<c.flags):jS c d (.mk 5 (nm 102 k) 0 [])
 |has {d:Nat} (h:0<c.tables) {e:Ex} (he:fD c d e):jS c (d+1) (.mk 7 (nm 116 0) 0 [e])
 |not {d:Nat} {e:Ex} (he:jS c d e):jS c (d+1) (.mk 10 [] 0 [e])
 |B1 {d:Nat} (op:Nat) (h1:22<=op) (h2:op<=23) {a b:Ex} (ha:jS c d a) (hb:jS c d b):jS c (d+1) (.mk op [] 0 [a,b])
 |cmp {d:Nat} (op:Nat) (h1:16<=op) (h2:op<=21) {a b:Ex} (ha:fD c d a) (hb:fD c d b):jS c (d+1) (.mk op [] 0 [a,b])
structure Wd where
 sc:Sc
 ar:Dw
 own:Nat
inductive lO (w:Wd) (B:JH->Prop):St->Prop where
 |mZ (k:Nat) (h:k<w.sc.ints) {e:Ex} (he:fD w.sc 3 e):lO w B (.mk 1 (nm 120 k) [] [e] [] [])
 |AN {e:Ex} (he:jS w.sc 5 e):lO w B (.mk 1 (nm 98 0) [] [e] [] [])
 |put (h:0<w.sc.tables) {a b:Ex} (ha:fD w.sc 3 a) (hb:fD w.sc 3 b):lO w B (.mk 2 (nm 116 0) [] [a,b] [] [])
 |del (h:0<w.sc.tables) {a:Ex} (ha:fD w.sc 3 a):lO w B (.mk 3 (nm 116 0) [] [a] [] [])
 |cond {e:Ex} (he:jS w.sc 5 e) {th el:JH} (h1:B th) (h2:B el):lO w B (.mk 4 [] [] [e] th el)
 |Du {e:Ex} (he:jS w.sc 5 e) {th:JH} (h1:B th):lO w B (.mk 5 [] [] [e] th [])
 |send (i h n:Nat) {l:Es} (hi:w.ar[i]? =some l) (hh:l[h]? =some n) {es:List Ex} (he:∀e∈es,fD w.sc 3 e) (hn:es.length=n):lO w B (.mk 6 [(97+i).toUInt8] (nm 104 h) es [] [])
 |Bi (h n:Nat) {l:Es} (hi:w.ar[w.own]? =some l) (hh:l[h]? =some n) {es:List Ex} (he:∀e∈es,fD w.sc 3 e) (hn:es.length=n+1):lO w B (.mk 7 [] (nm 104 h) es [] [])
 |store {a b:Ex} (ha:fD w.sc 3 a) (hb:fD w.sc 3 b) {el:JH} (h2:B el):lO w B (.mk 8 [] [] [a,b] [] el)
 |Dg (k:Nat) (h:k<w.sc.ints) {a:Ex} (ha:fD w.sc 3 a) {el:JH} (h2:B el):lO w B (.mk 9 (nm 120 k) [] [a] [] el)
 |stop:lO w B (.mk 10 [] [] [] [] [])
def jQ(w:Wd):Nat->List St->Prop
 |0,l=>l=[]
 |d+1,l=>∀s∈l,lO w (jQ w d) s
theorem fD.mono{c:Sc}{d d':Nat}{e:Ex}(h:fD c d e)(hd:d<=d'):fD c d' e:=by
 induction h generalizing d' with
 |num n h=>exact .num n h
 |var k h=>exact .var k h
 |lW k h=>exact .lW k h
 |now=>exact .now
 |get h _ ih=>obtain⟨d',rfl⟩:∃x,d'=x+1:=⟨d' - 1,MK⟩;exact .get h (ih MK)
 |size h=>exact .size h
 |neg _ ih=>obtain⟨d',rfl⟩:∃x,d'=x+1:=⟨d' - 1,MK⟩;exact .neg (ih MK)
 |bin op h1 h2 _ _ kw dO=>obtain⟨d',rfl⟩:∃x,d'=x+1:=⟨d' - 1,MK⟩;exact .bin op h1 h2 (kw MK) (dO MK)
structure Mk where
 ints:Nat
 tables:Nat
 flags:Nat
 own:Nat
 ar:Dw
 params:Nat
 bs:EH
 left:Nat
def bG(l:EH):Ca:=l.map fun b=>[bD b.toNat]
def ep(ar:Dw):Ca:=ar.map fun l=>[.sl (l.map fun n=>[iD n])]
def Mk.d(m:Mk):Di:=[iD m.ints,iD m.tables,iD m.flags,iD m.own,.sl (ep m.ar),iD m.params,.sl (bG m.bs),iD m.left]
def Mk.sc(m:Mk):Sc:=⟨m.ints,m.tables,m.flags,m.params⟩
structure Mk.Ok (m:Mk):Prop where
 i1:1<=m.ints
 i3:m.ints<=3
 t1:m.tables<=1
 f2:m.flags<=2
 p2:m.params<=2
 own:m.own<m.ar.length
 EV:m.ar.length<=3
 ji:∀l∈m.ar,1<=l.length/\l.length<=3/\∀n∈l,n<=2
 left:m.left<=12
end Go.Fl
namespace Go.Ex
variable{t:DT}{us:C3}{env ds o:Di}{Q:Di->Prop}{f j m c:Nat}
open Go.RowKit
noncomputable section
def sM:Nat->DT->List D->Option (DT×List D)
 |0,t,env=>some (t,env)
 |n+1,.note _ t,env=>sM n t env
 |n+1,.op k args t,env=>match aH (bR (lk env)) args with
  |some ds=>match aF k ds with
   |some d=>match d.cell with
    |true=>sM n t (env++[d])
    |false=>none
   |none=>none
  |none=>none
 |n+1,.aQ k args cR t e,env=>match aH (bR (lk env)) args with
  |some ds=>match aF k ds with
   |some (.agg l)=>match jc cR l with
    |true=>sM n t (env++l)
    |false=>sM n e env
   |_=>none
  |none=>none
 |n+1,.br k args t e,env=>match aH (bR (lk env)) args with
  |some ds=>match aF k ds with
   |some (.bool true)=>sM n t env
   |some (.bool false)=>sM n e env
   |_=>none
  |none=>none
 |_+1,_,_=>none
def Dn(f j:Nat)(us:C3):List (List (Option xM)×DT)->DT
 |[]=> .stop
 |(p,t)::l=> .call f j us p t (Dn f j us l)
def LV(o:Di):List (List (Option xM)×DT)->Option DT
 |[]=>none
 |(p,t)::l=>match jc p o with
  |true=>some t
  |false=>LV o l
def kal(ρ:C3)(f j:Nat)(us:C3)(l:List (List (Option xM)×DT)):DT:= .note ⟨.own 1,[.tuple ⟨ρ⟩,.tuple ⟨us⟩],J⟩ (Dn f j us l)
def Qj(F:List FD)(i h:Nat):Option (DT×Nat):=match F[i]? with
 |some fd=>match fd.hs[h]?,fd.qP[h]? with
  |some s,some t=>some (t,s.m)
  |_,_=>none
 |none=>none
section
variable{F:List FD}{X:Bv}{i h:Nat}{t' e:DT}{k:NK}{args:C3}{lM:Di}
theorem wg:∀(n:Nat) {t:DT} {env:Di},sM n t env=some (t',lM)->Wp F X i t' lM Q->Wp F X i t env Q
 |0,t,env,h,w=>by
  unfold sM at h;cases h;exact w
 |n+1,.note nd t,env,h,w=>Wp.note (wg n h w)
 |n+1,.op k args t,env,h,w=>by
  unfold sM at h;split at h
  ·rename_i h1;split at h
   ·rename_i h2;split at h
    ·rename_i h3;exact Wp.op h1 h2 h3 (wg n h w)
    ·cases h
   ·cases h
  ·cases h
 |n+1,.aQ k args cR t e,env,h,w=>by
  unfold sM at h;split at h
  ·rename_i h1;split at h
   ·rename_i h2;split at h
    ·rename_i h3;exact Wp.aQ h1 h2 h3 (wg n h w)
    ·rename_i h3;exact Wp.SZ h1 h2 h3 (wg n h w)
   ·cases h
  ·cases h
 |n+1,.br k args t e,env,h,w=>by
  unfold sM at h;split at h
  ·rename_i h1;split at h
   ·rename_i h2;exact Wp.nz h1 h2 (wg n h w)
   ·rename_i h2;exact Wp.qQ h1 h2 (wg n h w)
   ·cases h
  ·cases h
 |n+1,.sw ..,_,h,_=>by cases h
 |n+1,.call ..,_,h,_=>by cases h
 |n+1,.jump ..,_,h,_=>by cases h
 |n+1,.ret ..,_,h,_=>by cases h
 |n+1,.stop,_,h,_=>by cases h
theorem wo{d:D}(h1:aH (bR (lk env)) args=some ds)(h2:aF k ds=some d)(h4:Wp F X i t (env++[d]) Q)(h3:d.cell=true:=by exact rfl):Wp F X i (.op k args t) env Q:=Wp.op h1 h2 h3 h4
theorem wy{p:Prop}[Decidable p](h1:aH (bR (lk env)) args=some ds)(h2:aF k ds=some (.bool (decide p)))(h4:Wp F X i t env Q)(hp:p:=by omega):Wp F X i (.br k args t e) env Q:=Wp.dt h1 h2 hp h4
theorem wn{p:Prop}[Decidable p](h1:aH (bR (lk env)) args=some ds)(h2:aF k ds=some (.bool (decide p)))(h4:Wp F X i e env Q)(hp: ¬p:=by omega):Wp F X i (.br k args t e) env Q:=Wp.c8 h1 h2 hp h4
theorem wL:∀{l:List (List (Option xM)×DT)},aH (aX (lk env)) us=some ds->Rn F X j 0 ds (·=o)->LV o l=some t->Wp F X i t (env++o) Q->Wp F X i (Dn f j us l) env Q
 |[],_,_,h3,_=>by cases h3
 |(p,t')::l,h1,h2,h3,h4=>by
  unfold LV at h3;split at h3
  ·rename_i hm;cases h3;exact Wp.ig h1 h2 hm h4
  ·rename_i hm;exact Wp.AG h1 h2 hm (wL h1 h2 h3 h4)
theorem wl{nd:Node}{l:List (List (Option xM)×DT)}(h1:aH (aX (lk env)) us=some ds)(h2:Rn F X j 0 ds (·=o))(h3:LV o l=some t)(h4:Wp F X i t (env++o) Q):Wp F X i (.note nd (Dn f j us l)) env Q:=Wp.note (wL h1 h2 h3 h4)
theorem wR(h1:Qj F i h=some (t,m))(h2:ds.length=m)(h3:Wp F X i t ds Q):Rn F X i h ds Q:=by
 unfold Qj at h1;split at h1
 ·rename_i fd hi;split at h1
  ·rename_i s t' hs ht;cases h1;exact Rn.of hi hs ht h2 h3
  ·cases h1
 ·cases h1
theorem wr(h1:Qj F i h=some (t,m))(h3:Wp F X i t ds Q)(h2:ds.length=m:=by exact rfl):Rn F X i h ds Q:=wR h1 h2 h3
end
section
variable{F:List FD}{X:Bv}{i:Nat}
section
variable{a b c d e f g j k l m n o p q r s u v w x y z A B C E G H I J K L M N O P R S T U V W Y Z a1 b1 c1 d1 e1 f1 g1 j1 k1:D}
theorem w5(h:Wp F X i t [a,b,c,d,e] Q):Wp F X i t [a,b,c,d,e] Q:=h
theorem w6(h:Wp F X i t [a,b,c,d,e,f] Q):Wp F X i t [a,b,c,d,e,f] Q:=h
theorem w7(h:Wp F X i t [a,b,c,d,e,f,g] Q):Wp F X i t [a,b,c,d,e,f,g] Q:=h
theorem w8(h:Wp F X i t [a,b,c,d,e,f,g,j] Q):Wp F X i t [a,b,c,d,e,f,g,j] Q:=h
theorem w9(h:Wp F X i t [a,b,c,d,e,f,g,j,k] Q):Wp F X i t [a,b,c,d,e,f,g,j,k] Q:=h
theorem nR(h:Wp F X i t [a,b,c,d,e,f,g,j,k,l] Q):Wp F X i t [a,b,c,d,e,f,g,j,k,l] Q:=h
theorem dF(h:Wp F X i t [a,b,c,d,e,f,g,j,k,l,m] Q):Wp F X i t [a,b,c,d,e,f,g,j,k,l,m] Q:=h
theorem lS(h:Wp F X i t [a,b,c,d,e,f,g,j,k,l,m,n] Q):Wp F X i t [a,b,c,d,e,f,g,j,k,l,m,n] Q:=h
theorem mw(h:Wp F X i t [a,b,c,d,e,f,g,j,k,l,m,n,o] Q):Wp F X i t [a,b,c,d,e,f,g,j,k,l,m,n,o] Q:=h
theorem m6(h:Wp F X i t [a,b,c,d,e,f,g,j,k,l,m,n,o,p] Q):Wp F X i t [a,b,c,d,e,f,g,j,k,l,m,n,o,p] Q:=h
theorem dW(h:Wp F X i t [a,b,c,d,e,f,g,j,k,l,m,n,o,p,q] Q):Wp F X i t [a,b,c,d,e,f,g,j,k,l,m,n,o,p,q] Q:=h
theorem oe(h:Wp F X i t [a,b,c,d,e,f,g,j,k,l,m,n,o,p,q,r] Q):Wp F X i t [a,b,c,d,e,f,g,j,k,l,m,n,o,p,q,r] Q:=h
theorem gV(h:Wp F X i t [a,b,c,d,e,f,g,j,k,l,m,n,o,p,q,r,s] Q):Wp F X i t [a,b,c,d,e,f,g,j,k,l,m,n,o,p,q,r,s] Q:=h
theorem D5(h:Wp F X i t [a,b,c,d,e,f,g,j,k,l,m,n,o,p,q,r,s,u] Q):Wp F X i t [a,b,c,d,e,f,g,j,k,l,m,n,o,p,q,r,s,u] Q:=h
theorem gI(h:Wp F X i t [a,b,c,d,e,f,g,j,k,l,m,n,o,p,q,r,s,u,v] Q):Wp F X i t [a,b,c,d,e,f,g,j,k,l,m,n,o,p,q,r,s,u,v] Q:=h
theorem lR(h:Wp F X i t [a,b,c,d,e,f,g,j,k,l,m,n,o,p,q,r,s,u,v,w] Q):Wp F X i t [a,b,c,d,e,f,g,j,k,l,m,n,o,p,q,r,s,u,v,w] Q:=h
theorem je(h:Wp F X i t [a,b,c,d,e,f,g,j,k,l,m,n,o,p,q,r,s,u,v,w,x] Q):Wp F X i t [a,b,c,d,e,f,g,j,k,l,m,n,o,p,q,r,s,u,v,w,x] Q:=h
theorem jX(h:Wp F X i t [a,b,c,d,e,f,g,j,k,l,m,n,o,p,q,r,s,u,v,w,x,y] Q):Wp F X i t [a,b,c,d,e,f,g,j,k,l,m,n,o,p,q,r,s,u,v,w,x,y] Q:=h
theorem pP(h:Wp F X i t [a,b,c,d,e,f,g,j,k,l,m,n,o,p,q,r,s,u,v,w,x,y,z] Q):Wp F X i t [a,b,c,d,e,f,g,j,k,l,m,n,o,p,q,r,s,u,v,w,x,y,z] Q:=h
theorem vZ(h:Wp F X i t [a,b,c,d,e,f,g,j,k,l,m,n,o,p,q,r,s,u,v,w,x,y,z,A] Q):Wp F X i t [a,b,c,d,e,f,g,j,k,l,m,n,o,p,q,r,s,u,v,w,x,y,z,A] Q:=h
theorem vY(h:Wp F X i t [a,b,c,d,e,f,g,j,k,l,m,n,o,p,q,r,s,u,v,w,x,y,z,A,B] Q):Wp F X i t [a,b,c,d,e,f,g,j,k,l,m,n,o,p,q,r,s,u,v,w,x,y,z,A,B] Q:=h
theorem nQ(h:Wp F X i t [a,b,c,d,e,f,g,j,k,l,m,n,o,p,q,r,s,u,v,w,x,y,z,A,B,C] Q):Wp F X i t [a,b,c,d,e,f,g,j,k,l,m,n,o,p,q,r,s,u,v,w,x,y,z,A,B,C] Q:=h
theorem jq(h:Wp F X i t [a,b,c,d,e,f,g,j,k,l,m,n,o,p,q,r,s,u,v,w,x,y,z,A,B,C,E] Q):Wp F X i t [a,b,c,d,e,f,g,j,k,l,m,n,o,p,q,r,s,u,v,w,x,y,z,A,B,C,E] Q:=h
theorem oa(h:Wp F X i t [a,b,c,d,e,f,g,j,k,l,m,n,o,p,q,r,s,u,v,w,x,y,z,A,B,C,E,G] Q):Wp F X i t [a,b,c,d,e,f,g,j,k,l,m,n,o,p,q,r,s,u,v,w,x,y,z,A,B,C,E,G] Q:=h
theorem LJ(h:Wp F X i t [a,b,c,d,e,f,g,j,k,l,m,n,o,p,q,r,s,u,v,w,x,y,z,A,B,C,E,G,H] Q):Wp F X i t [a,b,c,d,e,f,g,j,k,l,m,n,o,p,q,r,s,u,v,w,x,y,z,A,B,C,E,G,H] Q:=h
theorem pc(h:Wp F X i t [a,b,c,d,e,f,g,j,k,l,m,n,o,p,q,r,s,u,v,w,x,y,z,A,B,C,E,G,H,I] Q):Wp F X i t [a,b,c,d,e,f,g,j,k,l,m,n,o,p,q,r,s,u,v,w,x,y,z,A,B,C,E,G,H,I] Q:=h
theorem nP(h:Wp F X i t [a,b,c,d,e,f,g,j,k,l,m,n,o,p,q,r,s,u,v,w,x,y,z,A,B,C,E,G,H,I,J] Q):Wp F X i t [a,b,c,d,e,f,g,j,k,l,m,n,o,p,q,r,s,u,v,w,x,y,z,A,B,C,E,G,H,I,J] Q:=h
theorem iW(h:Wp F X i t [a,b,c,d,e,f,g,j,k,l,m,n,o,p,q,r,s,u,v,w,x,y,z,A,B,C,E,G,H,I,J,K] Q):Wp F X i t [a,b,c,d,e,f,g,j,k,l,m,n,o,p,q,r,s,u,v,w,x,y,z,A,B,C,E,G,H,I,J,K] Q:=h
theorem LI(h:Wp F X i t [a,b,c,d,e,f,g,j,k,l,m,n,o,p,q,r,s,u,v,w,x,y,z,A,B,C,E,G,H,I,J,K,L,M] Q):Wp F X i t [a,b,c,d,e,f,g,j,k,l,m,n,o,p,q,r,s,u,v,w,x,y,z,A,B,C,E,G,H,I,J,K,L,M] Q:=h
theorem kq(h:Wp F X i t [a,b,c,d,e,f,g,j,k,l,m,n,o,p,q,r,s,u,v,w,x,y,z,A,B,C,E,G,H,I,J,K,L,M,N,O] Q):Wp F X i t [a,b,c,d,e,f,g,j,k,l,m,n,o,p,q,r,s,u,v,w,x,y,z,A,B,C,E,G,H,I,J,K,L,M,N,O] Q:=h
theorem D4(h:Wp F X i t [a,b,c,d,e,f,g,j,k,l,m,n,o,p,q,r,s,u,v,w,x,y,z,A,B,C,E,G,H,I,J,K,L,M,N,O,P,R] Q):Wp F X i t [a,b,c,d,e,f,g,j,k,l,m,n,o,p,q,r,s,u,v,w,x,y,z,A,B,C,E,G,H,I,J,K,L,M,N,O,P,R] Q:=h
theorem mv(h:Wp F X i t [a,b,c,d,e,f,g,j,k,l,m,n,o,p,q,r,s,u,v,w,x,y,z,A,B,C,E,G,H,I,J,K,L,M,N,O,P,R,S,T] Q):Wp F X i t [a,b,c,d,e,f,g,j,k,l,m,n,o,p,q,r,s,u,v,w,x,y,z,A,B,C,E,G,H,I,J,K,L,M,N,O,P,R,S,T] Q:=h
theorem Hs(h:Wp F X i t [a,b,c,d,e,f,g,j,k,l,m,n,o,p,q,r,s,u,v,w,x,y,z,A,B,C,E,G,H,I,J,K,L,M,N,O,P,R,S,T,U,V,W,Y,Z,a1,b1] Q):Wp F X i t [a,b,c,d,e,f,g,j,k,l,m,n,o,p,q,r,s,u,v,w,x,y,z,A,B,C,E,G,H,I,J,K,L,M,N,O,P,R,S,T,U,V,W,Y,Z,a1,b1] Q:=h
theorem LF(h:Wp F X i t [a,b,c,d,e,f,g,j,k,l,m,n,o,p,q,r,s,u,v,w,x,y,z,A,B,C,E,G,H,I,J,K,L,M,N,O,P,R,S,T,U,V,W,Y,Z,a1,b1,c1,d1] Q):Wp F X i t [a,b,c,d,e,f,g,j,k,l,m,n,o,p,q,r,s,u,v,w,x,y,z,A,B,C,E,G,H,I,J,K,L,M,N,O,P,R,S,T,U,V,W,Y,Z,a1,b1,c1,d1] Q:=h
theorem Bm(h:Wp F X i t [a,b,c,d,e,f,g,j,k,l,m,n,o,p,q,r,s,u,v,w,x,y,z,A,B,C,E,G,H,I,J,K,L,M,N,O,P,R,S,T,U,V,W,Y,Z,a1,b1,c1,d1,e1,f1] Q):Wp F X i t [a,b,c,d,e,f,g,j,k,l,m,n,o,p,q,r,s,u,v,w,x,y,z,A,B,C,E,G,H,I,J,K,L,M,N,O,P,R,S,T,U,V,W,Y,Z,a1,b1,c1,d1,e1,f1] Q:=h
theorem uk(h:Wp F X i t [a,b,c,d,e,f,g,j,k,l,m,n,o,p,q,r,s,u,v,w,x,y,z,A,B,C,E,G,H,I,J,K,L,M,N,O,P,R,S,T,U,V,W,Y,Z,a1,b1,c1,d1,e1,f1,g1] Q):Wp F X i t [a,b,c,d,e,f,g,j,k,l,m,n,o,p,q,r,s,u,v,w,x,y,z,A,B,C,E,G,H,I,J,K,L,M,N,O,P,R,S,T,U,V,W,Y,Z,a1,b1,c1,d1,e1,f1,g1] Q:=h
theorem LD(h:Wp F X i t [a,b,c,d,e,f,g,j,k,l,m,n,o,p,q,r,s,u,v,w,x,y,z,A,B,C,E,G,H,I,J,K,L,M,N,O,P,R,S,T,U,V,W,Y,Z,a1,b1,c1,d1,e1,f1,g1,j1,k1] Q):Wp F X i t [a,b,c,d,e,f,g,j,k,l,m,n,o,p,q,r,s,u,v,w,x,y,z,A,B,C,E,G,H,I,J,K,L,M,N,O,P,R,S,T,U,V,W,Y,Z,a1,b1,c1,d1,e1,f1,g1,j1,k1] Q:=h
end
theorem wt{ρ:Es}{aM:C3}(h1:aH (aX (lk env)) us=some o)(h2:Q o):Wp F X i (.ret ρ aM us) env Q:=Wp.ret h1 h2
theorem wx{cR:List (Option xM)}{e:DT}{Q':Di->Prop}(h1:aH (aX (lk env)) us=some ds)(h2:Rn F X j 0 ds Q')(h3:∀o,Q' o->jc cR o=true/\Wp F X i t (env++o) Q):Wp F X i (.call f j us cR t e) env Q:=Wp.br8 h1 h2 h3
theorem wj{h':Nat}{ρ:Es}{aM:C3}(h2:Rn F X i h' ds Q)(h1:aH (aX (lk env)) us=some ds:=by exact rfl):Wp F X i (.jump h' m ρ aM us) env Q:=Wp.jump h1 h2
end
theorem oA{a:Nat}(h:a+1<=9223372036854775807:=by omega):aF (.bin .add c) [jD a,.int .i64 1]=some (jD (a+1)):=bg (b:=1) h
theorem oW{a:Nat}(h:1<=a:=by omega)(h2:a<=9223372036854775807:=by omega):aF (.bin .sub c) [jD a,.int .i64 1]=some (jD (a - 1)):=eO (b:=1) h h2
theorem oP{es bys:Nat}{rows:Ca}{row:Di}(h2:(rows.length+1)*bys<=140737488355328:=by omega)(h1:rows.length+1<=9223372036854775807:=by omega)(hl:row.length=es:=by exact rfl)(hc:row.all D.cell=true:=by exact rfl):aF (.app es bys) [.sl rows,.sl [row]]=some (.sl (rows++[row])):=gb hl hc h2 h1
theorem oI{a b:Int}(h1: -9223372036854775808<=a+b:=by omega)(h2:a+b<=9223372036854775807:=by omega):aF (.bin .add c) [.int .i64 a,.int .i64 b]=some (.int .i64 (a+b)):=Xe h1 h2
theorem oC{k:xO}{n:Nat}(h:n<=9223372036854775807:=by omega):aF (.kS .i64) [.int k (n:Nat)]=some (jD n):=Ai h
end
end Go.Ex
namespace Go.T
open Go Go.Ex Go.RowKit
abbrev i(n:Int):xM:= .int .i64 n
abbrev y(n:Int):xM:= .int .u8 n
abbrev u:xM:= .bool true
abbrev v:xM:= .bool false
abbrev s(l:EH):xM:= .string ⟨⟨l⟩⟩
abbrev x:xM:= .string ⟨⟨[]⟩⟩
def bv3(body:FuncId->Code)(f n k:Nat)(rs:List ResultVar)(sg:ia)(m:Nat)(hs:List (Nat×jV×Nat))(ds:List DT):FD:=
 ⟨f,n,k,rs,sg,⟨[.code (body f)],⟨vS sg.args,sg.hp⟩,m⟩::hs.map (fun h=>⟨match Nat.ble 50 h.1 with|true=>aft (((heads (body f) [])[h.1 - 50]?).getD [])|false=>((heads (body f) [])[h.1]?).getD [],h.2.1,h.2.2⟩),ds⟩
end Go.T
