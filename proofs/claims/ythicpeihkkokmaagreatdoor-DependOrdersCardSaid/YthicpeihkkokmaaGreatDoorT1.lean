/- Functions as programs on data, and their checks. -/
import Derived.Test.YthicpeihkkokmaaGreatDoorT0
import Derived.Test.YthicpeihkkokmaaGreatDoorX11
set_option linter.unusedVariables false
set_option linter.unusedSimpArgs false
namespace Go.Proofs.YthicpeihkkokmaaGreatDoor
open Go.Ex Go.RowKit Go.T
noncomputable abbrev S:List (Nat×ia):=F.map fun d=>(d.f,d.sg)
abbrev LG:Gy:=[BV,gb1,gb2,gb3,gb4,gb5,gb6,gb7,gb8]
def AL(w:World):Prop:=PQ LG w
def GG:GP:=⟨LG.length,NQ Tryz.prog AL 9 LG S,AL⟩
noncomputable def EE:az:=Zg Tryz.prog GG [237] [(229,227,0),(227,227,0)] [(275,22)]
noncomputable def call:eL->C3->AW->bp xM:=AH EE sq (GB EE sq) (KW LG 9 S) 100000 60
noncomputable def bO(n:Nat):HF->Fr->AW->bp Fr:=OL EE (GB EE sq call n)
theorem aP2:(Tryz.prog.funcs.toList.all fun fn=> !(fn.name== "runtime.NumGoroutine"))=true:=by kernel_rfl
theorem F9:EE.Ok Tryz.prog:=by
 refine aF1 (by kernel_rfl) (fun fn h=>by simpa using List.all_eq_true.1 aP2 fn h) (fun f hf x w=> ?_) (fun e u o h=> ?_) (by kernel_rfl) (fun δ nd h=>h.1) (fun w w' h hb g hg=> ?_) (fun f t h=> ?_)
 ·obtain rfl:f=237:=by simpa using hf
  kernel_rfl
 ·rcases(by simpa using h:(e=229/\u=227/\o=0)\/(e=227/\u=227/\o=0)) with⟨rfl,rfl,rfl⟩|⟨rfl,rfl,rfl⟩<;>kernel_rfl
 ·rcases h g hg with h1|⟨cs,es,h1,h2,e,fz,h3⟩
  ·exact .inl h1
  ·exact .inr ⟨cs,es,h1,h2,e,fz,(hb g hg).trans h3⟩
 ·obtain⟨rfl,rfl⟩:f=275/\t=22:=by simpa using h
  exact⟨#[],fun args w=>by kernel_rfl⟩
theorem P3:EE.Seq Tryz.prog sq:=aV8 (by kernel_rfl)
def Y2(b:Option aG):Bool:=match b with|some ⟨.cells cs,_,false,true,ty⟩=>cs.all yD&&ty==jN|none=>true|_=>false
theorem Zk:AK LG:=fun g hg=>by
 have hb:LG.all Y2=true:=by kernel_rfl
 have h1:=List.all_eq_true.1 hb (LG[g]) (List.getElem_mem hg);unfold Y2 at h1;split at h1
 ·rename_i cs es ty he;rw[xf] at h1;obtain rfl:ty=jN:=by simpa using h1.2
  exact .inr ⟨cs,es,by rw[xc hg,he],h1.1⟩
 ·rename_i he;exact .inl (by rw[xc hg,he])
 ·cases h1
theorem hGE:EE.G=⟨LG.length,NQ Tryz.prog AL 9 LG S,AL⟩:=rfl
theorem aW8:mc Tryz.prog EE (KW LG 9 S):=aO1 F9 hGE Zk (fun _ _ g i hk h=>h.2 g i hk)
theorem XU:mc Tryz.prog EE call:=aS4 F9 P3 aW8 _ _
theorem aH9(n:Nat):tK Tryz.prog EE n (bO n):=au0 F9 (XK F9 P3 XU n)
abbrev Chk(fd:FD)(h:Nat):Prop:=KR EE sq call bO 100000 9 LG S fd (fd.hs.getD h ⟨[],⟨[],[]⟩,0⟩) (fd.qP.getD h .stop)
abbrev eF(fd:FD):Prop:=FOk EE sq call bO 100000 9 LG Tryz.prog S fd
def Hr(q:Nat->Prop):Nat->Nat->Prop
 |0,_=>True
 |k+1,h=>q h/\Hr q k (h+1)
theorem Hr.get{q:Nat->Prop}:∀{k a:Nat},Hr q k a->∀h,h<k->q (h+a)
 |0,_,_,h,hh=>absurd hh (Nat.not_lt_zero h)
 |k+1,a,hq,0,_=>by rw[Nat.zero_add];exact hq.1
 |k+1,a,hq,h+1,hh=>by
  have:=Hr.get hq.2 h (Nat.lt_of_succ_lt_succ hh)
  rwa [show h+1+a=h+(a+1) by omega]
theorem kC{fd:FD}{h:Nat}(h1:(mb S (fd.qP.getD h .stop)&&Nat.ble fd.sg.nob (fd.hs.getD h ⟨[],⟨[],[]⟩,0⟩).T.hp.length)=true:=by kernel_rfl)(h2:qi (Rq EE sq call bO 100000 9 LG fd (fd.hs.getD h ⟨[],⟨[],[]⟩,0⟩)) (ab4 EE sq call bO 100000 9 LG fd (fd.hs.getD h ⟨[],⟨[],[]⟩,0⟩)) (Qb EE sq call 9 LG fd (fd.hs.getD h ⟨[],⟨[],[]⟩,0⟩)) (fd.qP.getD h .stop) (fd.hs.getD h ⟨[],⟨[],[]⟩,0⟩).m []=qm (LP fd) (fd.qP.getD h .stop):=by kernel_rfl):Chk fd h:=by
 rw[xf] at h1;exact⟨h1.1,xh h1.2,h2⟩
theorem kO{fd:FD}{b:Code}{m:Nat}(h2:fd.hs[0]? =some ⟨[.code b],⟨vS fd.sg.args,fd.sg.hp⟩,m⟩:=by exact rfl)(h1:(Tryz.prog.funcs[fd.f]?).map (fun fn=>(fn.body,fn.ntmps,fn.results))=some (some b,fd.n,⟨fd.rs⟩):=by kernel_rfl)(h3:Nat.ble fd.sg.args.length fd.n=true:=by exact rfl)(h5:Hr (Chk fd) fd.hs.length 0:=by repeat first|exact trivial|refine⟨kC,?_⟩):eF fd:=by
 obtain⟨fn,h6,h7⟩:=xp.1 h1;injection h7 with h8 h9;injection h9 with h9 h10;exact⟨⟨fn,b,h6,h8,h9,h10,m,h2⟩,xh h3,aM5 _ rfl fun h hh=>h5.get h hh⟩
theorem kA{l:List FD}(h:dQ eF l:=by repeat first|exact trivial|refine⟨kO,?_⟩):dQ eF l:=h
end Go.Proofs.YthicpeihkkokmaaGreatDoor
set_option maxRecDepth 1000000
namespace Go.Proofs.YthicpeihkkokmaaGreatDoor
open Go.Ex Go.RowKit Go.T
theorem tg0:dQ eF ((F.drop 0).take 2):=kA
theorem tg2:dQ eF ((F.drop 2).take 1):=kA
theorem tg3:dQ eF ((F.drop 3).take 1):=kA
theorem tg4:dQ eF ((F.drop 4).take 1):=kA
end Go.Proofs.YthicpeihkkokmaaGreatDoor
