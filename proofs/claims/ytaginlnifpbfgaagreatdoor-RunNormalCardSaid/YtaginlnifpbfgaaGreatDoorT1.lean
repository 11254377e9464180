/- Functions as programs on data, and their checks. -/
import Derived.Test.YtaginlnifpbfgaaGreatDoorT0
set_option linter.unusedVariables false
set_option linter.unusedSimpArgs false
namespace Go.Proofs.YtaginlnifpbfgaaGreatDoor
open Go.Ex Go.RowKit Go.T
abbrev LG:List (Option ao):=[gb0,CO,gb2,gb3,gb4,gb5,gb6,gb7,gb8]
def kZ(w:World):Prop:=Bo LG w
def GG:GP:=⟨LG.length,NQ Tryz.prog kZ 8 LG S,kZ⟩
noncomputable def EE:aq:=QD Tryz.prog GG [327] [(296,294,0),(294,294,0)] [] [(390,22)]
noncomputable def call:cT→List xM→AW→aZ xM:=qS EE sq (ua EE sq) (LO LG 8 S) 100000 60
noncomputable def bL(n:Nat):List Oper→Fr→AW→aZ Fr:=Pq EE (ua EE sq call n)
theorem Pd:(Tryz.prog.funcs.toList.all fun fn=> !(fn.name== "runtime.NumGoroutine"))=true:=by kernel_rfl
theorem iz:EE.Ok Tryz.prog:=by
 refine VV (by kernel_rfl) (fun fn h=>by simpa using List.all_eq_true.1 Pd fn h) (fun f hf x w=> ?_) (fun e u o h=> ?_) (by kernel_rfl) (fun δ nd h=>h.1) (fun w w' h hb g hg=> ?_) (fun f hf args w=> ?_) (fun f t h=> ?_)
 ·obtain rfl:f=327:=by simpa using hf
  kernel_rfl
 ·rcases(by simpa using h:(e=296∧u=294∧o=0)∨(e=294∧u=294∧o=0)) with⟨rfl,rfl,rfl⟩|⟨rfl,rfl,rfl⟩<;>kernel_rfl
 ·rcases h g hg with h1|⟨cs,es,h1,h2,e,fz,h3⟩
  ·exact .inl h1
  ·exact .inr ⟨cs,es,h1,h2,e,fz,(hb g hg).trans h3⟩
 ·simp at hf
 ·obtain⟨rfl,rfl⟩:f=390∧t=22:=by simpa using h
  exact⟨#[],fun args w=>by kernel_rfl⟩
theorem vd:EE.Seq Tryz.prog sq:=Xl (by kernel_rfl)
def Ys(b:Option ao):Bool:=match b with|some ⟨.cells cs,_,false,true,ty⟩=>cs.all z5&&ty==iY|none=>true|_=>false
theorem YL:HI LG:=fun g hg=>by
 have hb:LG.all Ys=true:=by kernel_rfl
 have h1:=List.all_eq_true.1 hb (LG[g]) (List.getElem_mem hg);unfold Ys at h1;split at h1
 ·rename_i cs es ty he;rw[xf] at h1;obtain rfl:ty=iY:=by simpa using h1.2
  exact .inr ⟨cs,es,by rw[xc hg,he],h1.1⟩
 ·rename_i he;exact .inl (by rw[xc hg,he])
 ·cases h1
theorem hGE:EE.G=⟨LG.length,NQ Tryz.prog kZ 8 LG S,kZ⟩:=rfl
theorem bm9:fG Tryz.prog EE (LO LG 8 S):=bd6 iz hGE YL (fun _ _ g i hk h=>h.2 g i hk)
theorem Xa:fG Tryz.prog EE call:=Bf iz vd bm9 _ _
theorem aY5(n:Nat):vc Tryz.prog EE n (bL n):=aL6 iz (W5 iz vd Xa n)
abbrev bZ(fd:FD)(h:Nat):Prop:=LC EE sq call bL 100000 8 LG S fd (fd.hs.getD h ⟨[],⟨[],[]⟩,0⟩) (fd.uR.getD h .stop)
abbrev aL(fd:FD):Prop:=FOk EE sq call bL 100000 8 LG Tryz.prog S fd
theorem kC{fd:FD}{h:Nat}(h1:(l7 S (fd.uR.getD h .stop)&&Nat.ble fd.sg.nob (fd.hs.getD h ⟨[],⟨[],[]⟩,0⟩).T.hp.length)=true:=by kernel_rfl)(h2:qJ (Sl EE sq call bL 100000 8 LG fd (fd.hs.getD h ⟨[],⟨[],[]⟩,0⟩)) (am4 EE sq call bL 100000 8 LG fd (fd.hs.getD h ⟨[],⟨[],[]⟩,0⟩)) (fd.uR.getD h .stop) (fd.hs.getD h ⟨[],⟨[],[]⟩,0⟩).m []=qR (Tb fd) (fd.uR.getD h .stop):=by kernel_rfl):bZ fd h:=by
 rw[xf] at h1;exact⟨h1.1,xh h1.2,h2⟩
theorem aM{fd:FD}{b:Code}{m n:Nat}(h5:Ih (bZ fd) n 0)(h2:fd.hs[0]? =some ⟨[.code b],⟨yl fd.sg.args,fd.sg.hp⟩,m⟩:=by exact rfl)(h1:(Tryz.prog.funcs[fd.f]?).map (fun fn=>(fn.body,fn.ntmps,fn.results))=some (some b,fd.n,⟨fd.rs⟩):=by kernel_rfl)(h3:Nat.ble fd.sg.args.length fd.n=true:=by exact rfl)(h4:fd.hs.length=n:=by exact rfl):aL fd:=by
 obtain⟨fn,h6,h7⟩:=xp.1 h1;injection h7 with h8 h9;injection h9 with h9 CN;exact⟨⟨fn,b,h6,h8,h9,CN,m,h2⟩,xh h3,bc8 n h4 fun h hh=>h5.get h hh⟩
end Go.Proofs.YtaginlnifpbfgaaGreatDoor
