/- SpaceRoots: a part of its proof; conditions: its statement's. -/
import Derived.Test.YtefepnnfphdkpaaGreatF24
set_option linter.defProp false
namespace Go.Proofs.YtefepnnfphdkpaaGreat.Am
open Go
def ql:=@Tryz.underlying26
def Ig:=@Tryz.func33
def YW : V→Bool
 | .agg [_,.bool b]=>b
 | _=>true
section
variable {told:cQ} {h:H} {S:List au} {X:au} {r k q p ct:Nat} {v x wh di:V} {l b:List Nat} {π:Pl} {m:List Fm} {μ:Lg} {δ:Dk}
abbrev Xi : V:=.fn (.func 146) [] []
end
def O4 (args:List V)(h:H)(r:V×H): Prop:=∃(dh:Nat) (es:cR) (clock:Nat),args=[.map dh,Xi]∧T.get h.tr dh=some (.map (es.map gO) clock) ∧
 r=(.bj [],⟨h.next+1+2*es.length,(h.put dh (some (.map ((es.filter (fun e=>YW e.2.1)).map gO) clock))).tr⟩)
structure W2 (told:cQ): Prop where
 w:W told
 sync:told 139=some (kD Tryz.prog 139 EW)
 del:told 145=some (kD Tryz.prog 145 O4)
theorem UR : ∀ {l m:cR},l.map gO=m.map gO→l=m:=by
 intro l
 induction l with
 | nil=>intro m h; cases m with
  | nil=>rfl
  | cons _ _=>cases h
 | cons e l J=>intro m h; cases m with
  | nil=>cases h
  | cons x m =>
   simp only [b6,vV] at h
   obtain ⟨I,h2⟩:=h
   rw [J h2]
   obtain ⟨e1,e2⟩:=e
   obtain ⟨x1,x2⟩:=x
   simp only [gO,aF,V.int.injEq,true_and] at I
   rw [I.1,I.2]
def Dk.iQ (δ:Dk): Int×Dk:=if δ.dead=true then (9,δ) else if δ.aP=0 then (9,δ.die) else (0,δ.c8.sync)
section
variable {told:cQ} {h:H} {S:List au} {X:au} {r k q p ct:Nat} {v x wh di:V} {l b:List Nat} {π:Pl} {m:List (Int×(Nat×Bool))} {μ:Lg} {δ:Dk}
theorem xH {a b:Obj}{id:Nat}(J:T.get h.tr id=some a)(I:T.get h.tr id=some b): a=b:=by rw [J] at I; exact bk I
theorem US (hT:W2 told)(s:Sat h (aR p δ::S))(mg:δ.Ok)(hk:∀e∈δ.now,0≤e.1∧e.1<δ.ax.length): Call ⟨Tryz.prog,told⟩ 139 [.ptr p 0] h fun v h'=>v=.int .i64 δ.iQ.1∧Sat h' (aR p δ.iQ.2::S):=by
 obtain ⟨r,h1,h2⟩:=O3 s mg hk
 obtain ⟨r,h3,h4⟩:=zZ h1 h2
 refine ⟨r.1,r.2,hG.told hT.sync zX rfl h3,?_⟩
 clear h1 h2 h3
 obtain ⟨p',cs,e1,gp',h4⟩:=h4
 injection e1 with e1 _
 injection e1 with e1 _
 subst e1
 obtain ⟨pg,wt,nw,lg,mk,tn,tl,ops,s1⟩:=bG.1 s
 have gp:=s1.row (k:=0) rfl
 have e2:=xH gp gp'
 injection e2 with _ e2 _
 subst e2
 rcases h4 with ⟨hd,rfl⟩ | ⟨hd,v1,h1,yO,h4⟩
 ·have hd:δ.dead=true:=by injection (bk hd)
  simp only [Dk.iQ,aj hd]
  exact ⟨aa,s⟩
 ·have hd:δ.dead=false:=by injection (bk hd)
  obtain ⟨v2,h2,aaV,hR⟩:=pI W.base s mg.aP
  obtain ⟨rfl,rfl⟩:=hG.det yO aaV
  simp only [Dk.iQ,hd,dY,bN]
  rcases hR with ⟨h0,rfl,s2⟩ | ⟨h0,rfl,s2⟩
  ·rcases h4 with ⟨_,rfl⟩ | ⟨hv,_⟩
   ·rw [aj h0]; exact ⟨rfl,s2⟩
   ·cases hv
  ·rcases h4 with ⟨hv,_⟩ | ⟨_,cs,im,N,row,dh,es,clock,g0,c1,c3,g1,g2,rfl⟩
   ·cases hv
   ·rw [ah h0]
    refine ⟨rfl,?_⟩
    obtain ⟨pg,wt,nw,lg,mk,tn,tl,ops,s3⟩:=bG.1 s2
    obtain ⟨Z3,row',rfl,s4⟩:=gq.1 (s3.ae [1])
    obtain ⟨J,es',I,rfl,hb,hn,s5⟩:=fb.1 (s4.ae [4])
    have s6:=s5.ae [4,2,0,0,0,0]
    have e3:=xH (s6.row (k:=0) rfl) g0
    injection e3 with _ e3 _
    subst e3
    have c1:=bk c1
    injection c1 with c1 _ c2 _
    subst c1; subst c2
    have c3:=bk c3
    injection c3 with c3
    subst c3
    have e4:=xH (s6.row (k:=1) rfl) g1
    injection e4 with _ e4 _
    subst e4
    have e5:=xH (s6.row (k:=2) rfl) g2
    injection e5 with e5 e6
    have e5:=UR e5
    subst e5; subst e6
    have s7:=s6.new (.iter J I I [])
    have s8:=s7.put (o':=.cells δ.c8.ax.length (nI es' row') false) (k:=2) rfl
    have s9:=s8.put (o':=.cells 12 (List.set (wK δ.c8.room (.sl Z3 0 δ.c8.ax.length (.exact δ.c8.ax.length)) wt (.map J) lg δ.c8.bp mk δ.c8.aP ops δ.c8.dead tn tl) 2 .bw) false) (k:=1) rfl
    have s10:=s9.put (o':=.map [] I) (k:=3) rfl
    have s11:=s10.kill
    have s12:Sat _ (each lq row' δ.c8.ax::eW (fun v b=>.cx v b) es' δ.c8.now::_):=s11.ae [4,3]
    have s13:=s12.two (C:=each lq (nI es' row') (laidP δ.c8.now δ.c8.ax)) (aW.each aW.lq _ _) (aW.HG (fun _ _=>aW.cx _ _) _ _) fun a b q1 q2=>JR q2 (fun e he=>by
     have:=mg.now e he
     rintro hq; rw [hq] at this; simp at this) q1
    have s14:=(fb (f:=fun v b=>.cx v b) (v:=.map J) (m:=([]:List (Int×List Nat)))).2 ⟨J,[],I,rfl,aa,kL,((s13.ae [3]).gA aa).ae [1,0]⟩
    have hlen:(laidP δ.c8.now δ.c8.ax).length=δ.c8.ax.length:=ve
    have Z4:=gq.2 ⟨Z3,nI es' row',rfl,by rw [hlen]; exact s14.ae [3,1]⟩
    rw [hlen] at Z4
    have s16:=(mA (v:=.bw) (m:=[])).2 ⟨[],((Z4.del 3).gA aa).oF⟩
    exact bG.2 ⟨_,_,_,_,_,_,_,ops,s16.ae [3,1,0,0]⟩
end
theorem fX.ak {π I:Pl}(J:fX π I): ∀g∈I.ak,∃f∈π.ak,∃t,g={ f with eY:=t }:=by
 intro g hg
 obtain ⟨i,hi,rfl⟩:=List.mem_iff_getElem.1 hg
 have hf:π.ak[i]?=some (π.ak[i]'(by rw [←J.len]; exact hi)):=bf _
 obtain ⟨t,ht⟩:=J.get i _ hf
 rw [bf hi] at ht
 exact ⟨_,qJ _,t,bk ht⟩
theorem fX.ok {π I:Pl}(J:fX π I)(h:π.Ok)(hh:I.hand<I.ak.length): I.Ok:=by
 refine ⟨hh,by rw [J.len]; exact h.many,by rw [J.bM,J.len]; exact h.bM,fun g hg => ?_,fun g hg => ?_⟩
 ·obtain ⟨f,hf,t,rfl⟩:=J.ak g hg
  exact h.len f hf
 ·obtain ⟨f,hf,t,rfl⟩:=J.ak g hg
  exact h.pins f hf
theorem Pl.Ok.set {π:Pl}{i:Nat}{f:Fm}{w:List (Int×Int)}{d:List (Int×(Nat×Bool))}(h:π.Ok)(hw:∀e∈w,0≤e.2∧e.2<π.ak.length)(J:f.b.length≤512)(hp:0≤f.pins∧f.pins≤4294967296): Pl.Ok { π with ak:=π.ak.set i f,bM:=w,bI:=d }:=by
 refine ⟨by simp only [bW]; exact h.hand,by simp only [bW]; exact h.many,fun e he=>by simp only [bW]; exact hw e he,fun g I => ?_,fun g I => ?_⟩
 ·rcases lM I with I | rfl
  ·exact h.len g I
  ·exact J
 ·rcases lM I with I | rfl
  ·exact h.pins g I
  ·exact hp
theorem UT {α:Type}{n:Int}: ∀ {l:List (Int×α)} {e:Int×α},e∈m_ n l→e∈l:=by
 intro l
 induction l with
 | nil=>intro e h; exact h
 | cons x l I =>
  intro e h
  simp only [m_] at h
  split at h
  ·exact bn _ h
  ·rcases List.mem_cons.1 h with rfl | h
   ·exact bu
   ·exact bn _ (I h)
theorem UU {α:Type}{n:Int}{x:α}: ∀ {l:List (Int×α)} {e:Int×α},e∈cB n x l→e=(n,x)∨e∈l:=by
 intro l
 induction l with
 | nil=>intro e h; simp only [cB,vO] at h; exact .inl h
 | cons y l I =>
  intro e h
  simp only [cB] at h
  split at h
  ·rcases List.mem_cons.1 h with rfl | h
   ·exact .inl rfl
   ·exact .inr (bn _ h)
  ·rcases List.mem_cons.1 h with rfl | h
   ·exact .inr bu
   ·rcases I h with h | h
    ·exact .inl h
    ·exact .inr (bn _ h)
theorem Cb {π:Pl}{i:Nat}{f:Fm}(h:π.Ok): (dF π i f).Ok:=by
 unfold dF
 refine h.set (fun e he => ?_) (by simp [eR]) (by simp [eR])
 split at he
 ·exact h.bM e he
 ·exact h.bM e (UT he)
theorem fY.ok {ε ε':aI}{n e:Int}{b:List Nat}(hr:fY ε n e b ε')(h:zY ε)(hp:∀f∈ε.1.ak,f.pins=0): zY ε':=by
 cases hr with
 | arg _=>exact h
 | Dj i f h1 h2 hl hf =>
  have hm:=bC hf
  exact ⟨h.pl.set h.pl.bM (h.pl.len f hm) (by have:=hp f hm; simp only; omega),h.lg,h.dk⟩
 | out I i f h1 h2 hl J hf hh he=>exact xG (ε:=(I,ε.2)) ⟨J.ok h.pl hh,h.lg,h.dk⟩
 | read I i f h1 h2 hl J hf hh he hr =>
  have:=xG (i:=i) (ε:=(I,ε.2)) ⟨J.ok h.pl hh,h.lg,h.dk⟩
  exact ⟨Cb this.pl,this.lg,this.dk⟩
 | bad I i f h1 h2 hl J hf hh he hr hc =>
  have:=xG (i:=i) (ε:=(I,ε.2)) ⟨J.ok h.pl hh,h.lg,h.dk⟩
  exact ⟨Cb this.pl,this.lg,this.dk⟩
 | load I i f h1 h2 hl J hf hh he hr hc =>
  have:=xG (i:=i) (ε:=(I,ε.2)) ⟨J.ok h.pl hh,h.lg,h.dk⟩
  have h3:=Cb (i:=i) (f:=f) this.pl
  have hlen:i<(dF (outF (I,ε.2) i).2.1 i f).ak.length:=by
   obtain ⟨c,hc⟩:=n_ (ε:=(I,ε.2)) hf
   have:=(List.getElem?_eq_some_iff.1 hc).1
   simpa [dF] using this
  refine ⟨h3.set (fun e he => ?_) (by simp only; rw [this.dk.at]; omega) (by simp),this.lg,this.dk⟩
  rcases UU he with rfl | he
  ·simp only; omega
  ·exact h3.bM e he
theorem FM {π:Pl}{n:Int}(h:π.Ok): (unpinF π n).2.Ok:=by
 unfold unpinF
 split
 ·exact h
 ·rename_i i hi
  split
  ·exact h
  ·rename_i f I
   have hm:=bC I
   refine h.set h.bM (h.len f hm) ?_
   have:=h.pins f hm
   have J:f.pins≠0:=by
    unfold heldI at hi
    split at hi
    ·cases hi
    ·split at hi
     ·cases hi
     ·rename_i g hg
      split at hi
      ·cases hi
      ·rename_i hp
       have:=bk hi
       subst this
       rw [hg] at I
       have:=bk I
       subst this
       exact hp
   simp only; omega
inductive nk (ε:aI)(n:Int): Int→List Nat→aI→Prop where
 | dead (h:ε.2.2.dead=true):nk ε n 9 [] ε
 | iP (e:Int) (b:List Nat) (ε':aI) (h:ε.2.2.dead=false) (hr:fY ε n e b ε') (he:e≠0):nk ε n e [] ε'
 | sO (b:List Nat) (ε':aI) (h:ε.2.2.dead=false) (hr:fY ε n 0 b ε') (he:(unpinF ε'.1 n).1≠0):nk ε n (unpinF ε'.1 n).1 [] ((unpinF ε'.1 n).2,ε'.2)
 | read (b:List Nat) (ε':aI) (h:ε.2.2.dead=false) (hr:fY ε n 0 b ε') (he:(unpinF ε'.1 n).1=0):nk ε n 0 b ((unpinF ε'.1 n).2,ε'.2)
theorem nk.ok {ε ε':aI}{n e:Int}{b:List Nat}(I:nk ε n e b ε')(h:zY ε)(J:∀f∈ε.1.ak,f.pins=0): zY ε':=by
 cases I with
 | dead _=>exact h
 | iP e b ε' hd I he=>exact I.ok h J
 | sO b ε' hd I he=>have:=I.ok h J; exact ⟨FM this.pl,this.lg,this.dk⟩
 | read b ε' hd I he=>have:=I.ok h J; exact ⟨FM this.pl,this.lg,this.dk⟩
def r6 (a p q r:Nat)(op dv:V)(aH:Nat): List V:=[.ptr p 0,.ptr q 0,.ptr r 0,op,dv,.int .u64 (aH:Int)]
def dV (a p q r:Nat)(op:V)(data:List Nat)(aH:Nat): au:=xs fun dv:V=>star [pt a (.cells 6 (r6 a p q r op dv aH) false),.cx dv data]
def fZ (g a:Nat)(now:List (Int×List Nat))(b_:Bool): au:=xs fun I:V=>star [pt g (.cells 3 [.ptr a 0,I,.bool b_] false),jc (fun v b=>.cx v b) I now]
section
variable {told:cQ} {h:H} {S:List au} {X:au} {r k q p ct a g aH:Nat} {op v x wh di:V} {l b data:List Nat} {π:Pl} {m:List Fm} {μ:Lg} {δ:Dk} {now:List (Int×List Nat)} {b_:Bool}
theorem cP : Sat h (dV a p q r op data aH::S)↔∃dv,Sat h (pt a (.cells 6 (r6 a p q r op dv aH) false)::.cx dv data::S):=by
 simp only [dV,gN,bQ,fg,cZ]
theorem eG : Sat h (fZ g a now b_::S)↔∃I,Sat h (pt g (.cells 3 [.ptr a 0,I,.bool b_] false)::jc (fun v b=>.cx v b) I now::S):=by
 simp only [fZ,gN,bQ,fg,cZ]
theorem Cc (hT:W told){n:Int}(s:Sat h (dV a p q r op data aH::eF r p q π::b8 q p μ::aR p δ::S))(I:zY (π,μ,δ))(J:∀f∈π.ak,f.pins=0)(hw:δ.waiting.length≤268435456):
  Call ⟨Tryz.prog,told⟩ 113 [.ptr a 0,.int .i64 n] h fun v h'=>∃(e:Int) (b:List Nat) (ε:aI),nk (π,μ,δ) n e b ε ∧
   ((e≠0∧v=.bj [.bw,.int .i64 e]∧Sat h' (dV a p q r op data aH::eF r p q ε.1::b8 q p ε.2.1::aR p ε.2.2::S)) ∨
    (e=0∧∃u,v=.bj [u,.int .i64 0]∧Sat h' (aZ u b::dV a p q r op data aH::eF r p q ε.1::b8 q p ε.2.1::aR p ε.2.2::S))):=by
 have s0:=s
 obtain ⟨dv,s⟩:=cP.1 s
 refine Call.of_wp (hT.free _ rfl) Tryz.func113 rfl rfl (zK 10 rfl (zf rfl (rf _ _) (zl rfl (s.ld (k:=0) rfl qZ rfl) (zc rfl (HP hT (s.ae [4])) ?_))))
 rintro v h ⟨rfl,rfl⟩
 refine zv ?_
 cases hd:δ.dead with
 | true =>
  exact zK 6 rfl (WP.ret ⟨aa,_,rfl,9,[],_,.dead hd,.inl ⟨by decide,rfl,s0⟩⟩)
 | false =>
  refine zK 6 rfl (zf rfl (tA _ _) (zl rfl (s.ld (k:=0) rfl AT rfl) (zm rfl (zc rfl (OU (n:=n) hT (s.ae [2,2,2]) I.pl J I.lg I.dk hw) ?_))))
  rintro v h ⟨e,b,ε,hr,(⟨he,rfl,s⟩ | ⟨rfl,u,rfl,s⟩)⟩
  ·dsimp only [bringA,getA,aQ] at s
   refine zk 10 rfl (zt rfl (af rfl rfl aN) (by simp; exact he) ?_)
   exact zk 8 rfl (WP.ret ⟨aa,_,rfl,e,[],ε,.iP e b ε hd hr he,.inl ⟨he,rfl,cP.2 ⟨dv,s.ae [3,3,0,0,0]⟩⟩⟩)
  ·dsimp only [bringA,getA,aQ] at s
   refine zk 10 rfl (zh rfl (af rfl rfl aN) (rfl) ?_)
   have s:=s.ae [4,4,0,0,0,0]
   refine zk 8 rfl (zf rfl (tA _ _) (zl rfl (s.ld (k:=0) rfl AT rfl) (zm rfl ?_)))
   have me:=hr.ok I J
   refine zc rfl (H8 (n:=n) hT (s.ae [3]) me.pl) ?_
   rintro v h ⟨rfl,s⟩
   refine zk 5 rfl ?_
   by_cases he:(unpinF ε.1 n).1=0
   ·skip
    refine zh rfl (af rfl rfl aN) (by simp; exact he) ?_
    exact zk 9 rfl (WP.ret ⟨aa,_,rfl,0,b,_,.read b ε hd hr he,.inr ⟨rfl,u,rfl,(cP.2 ⟨dv,s.ae [1,1,0,1,1,0]⟩).ae [4,0,0,0,0]⟩⟩)
   ·skip
    refine zt rfl (af rfl rfl aN) (by simp; exact he) ?_
    exact zk 8 rfl (WP.ret ⟨aa,_,rfl,_,[],_,.sO b ε hd hr he,.inl ⟨he,rfl,(cP.2 ⟨dv,(s.ae [1,1,0,1,1,0]).del 5⟩)⟩⟩)
end
structure Pl.Full (π:Pl): Prop where
 nodup:(π.bM.map (·.1)).Nodup
 mI:∀n i,lookL n π.bM=some i→0≤n∧∃f,π.ak[i.toNat]?=some f∧f.aL=n∧f.b.length=512
structure jk (ε:aI): Prop where
 ok:zY ε
 pins:∀f∈ε.1.ak,f.pins=0
 full:ε.1.Full
theorem Pl.Full.set {π:Pl}{i:Nat}{f g:Fm}{d:List (Int×(Nat×Bool))}(h:π.Full)(hf:π.ak[i]?=some f)(hp:g.aL=f.aL)(hl:f.b.length=512→g.b.length=512): Pl.Full { π with ak:=π.ak.set i g,bI:=d }:=by
 refine ⟨h.nodup,fun n j hj => ?_⟩
 obtain ⟨h1,f',J,h3,h4⟩:=h.mI n j hj
 refine ⟨h1,?_⟩
 by_cases I:i=j.toNat
 ·subst I
  rw [hf] at J
  have:=bk J
  subst this
  exact ⟨g,gw (List.getElem?_eq_some_iff.1 hf).1,hp.trans h3,hl h4⟩
 ·exact ⟨f',by simp only [ff I]; exact J,h3,h4⟩
theorem fX.full {π I:Pl}(J:fX π I)(h:π.Full): I.Full:=by
 refine ⟨by rw [J.bM]; exact h.nodup,fun n j hj => ?_⟩
 rw [J.bM] at hj
 obtain ⟨h1,f',h2,h3,h4⟩:=h.mI n j hj
 obtain ⟨t,ht⟩:=J.get _ _ h2
 exact ⟨h1,_,ht,h3,h4⟩
theorem vf {ε:aI}{i:Nat}(h:ε.1.Full): (outF ε i).2.1.Full:=by
 unfold outF
 split
 ·exact h
 ·rename_i f I
  split
  ·exact h
  ·split
   ·exact h
   ·split
    ·exact h
    ·split
     ·exact h
     ·exact h.set I rfl fun J=>J
theorem xI {π:Pl}{i:Nat}{f g:Fm}(h:π.Full)(hg:π.ak[i]?=some g)(hp:g.aL=f.aL): (dF π i f).Full∧∀n j,lookL n (dF π i f).bM=some j→j.toNat≠i:=by
 have key:∀n j,lookL n (dF π i f).bM=some j→lookL n π.bM=some j∧j.toNat≠i:=by
  intro n j I
  by_cases hf:f.aL<0
  ·have hw:(dF π i f).bM=π.bM:=by simp only [dF,aj hf]
   rw [hw] at I
   refine ⟨I,fun hi => ?_⟩
   obtain ⟨h1,f',J,h3,_⟩:=h.mI n j I
   rw [hi,hg] at J
   have:=bk J
   subst this
   omega
  ·have hw:(dF π i f).bM=m_ f.aL π.bM:=by simp only [dF,ah hf]
   rw [hw,Fy h.nodup] at I
   by_cases hn:f.aL=n
   ·rw [aj hn] at I; cases I
   ·rw [ah hn] at I
    refine ⟨I,fun hi => ?_⟩
    obtain ⟨h1,f',J,h3,_⟩:=h.mI n j I
    rw [hi,hg] at J
    have:=bk J
    subst this
    omega
 refine ⟨⟨?_,fun n j I => ?_⟩,fun n j I=>(key n j I).2⟩
 ·unfold dF
  simp only
  split
  ·exact h.nodup
  ·exact xx h.nodup
 ·obtain ⟨h1,J⟩:=key n j I
  obtain ⟨h3,f',h4,h5,h6⟩:=h.mI n j h1
  exact ⟨h3,f',by simp only [dF,ff (jO J)]; exact h4,h5,h6⟩
theorem JS {π:Pl}{i:Nat}{n:Int}{b:List Nat}(h:π.Full)(hi:i<π.ak.length)(J:∀n j,lookL n π.bM=some j→j.toNat≠i)(hn:0≤n)(hb:b.length=512): (jI π i n b).Full:=by
 refine ⟨iL h.nodup,fun m j I => ?_⟩
 simp only [jI,gS] at I
 by_cases hm:n=m
 ·rw [aj hm] at I
  have:=bk I
  subst this; subst hm
  exact ⟨hn,⟨n,b,1,true,false⟩,gw hi,rfl,hb⟩
 ·rw [ah hm] at I
  obtain ⟨h3,f',h4,h5,h6⟩:=h.mI m j I
  exact ⟨h3,f',by simp only [jI,ff (jO (J m j I))]; exact h4,h5,h6⟩
theorem fY.full {ε ε':aI}{n e:Int}{b:List Nat}(hr:fY ε n e b ε')(hd:ε.2.2.Ok)(h:ε.1.Full): ε'.1.Full∧(e=0→b.length=512):=by
 cases hr with
 | arg _=>exact ⟨h,fun h=>(by cases h)⟩
 | Dj i f h1 h2 hl hf =>
  refine ⟨h.set hf rfl fun hl=>hl,fun _ => ?_⟩
  obtain ⟨_,f',h4,_,h6⟩:=h.mI n i hl
  rw [b9,hf] at h4
  have:=bk h4
  subst this
  exact h6
 | out I i f h1 h2 hl hn hf hh he=>exact ⟨vf (ε:=(I,ε.2)) (hn.full h),fun h=>absurd h he⟩
 | read I i f h1 h2 hl hn hf hh he hr =>
  obtain ⟨c,J⟩:=n_ (ε:=(I,ε.2)) hf
  exact ⟨(xI (f:=f) (vf (ε:=(I,ε.2)) (hn.full h)) J rfl).1,fun h=>absurd h hr⟩
 | bad I i f h1 h2 hl hn hf hh he hr hc =>
  obtain ⟨c,J⟩:=n_ (ε:=(I,ε.2)) hf
  exact ⟨(xI (f:=f) (vf (ε:=(I,ε.2)) (hn.full h)) J rfl).1,fun h=>absurd h hc⟩
 | load I i f h1 h2 hl hn hf hh he hr hc =>
  obtain ⟨c,J⟩:=n_ (ε:=(I,ε.2)) hf
  have hi:=(List.getElem?_eq_some_iff.1 J).1
  obtain ⟨k1,k2⟩:=xI (f:=f) (vf (ε:=(I,ε.2)) (hn.full h)) J rfl
  have BJ:=(B7 (ε:=(I,ε.2)) (i:=i) hd).at n
  exact ⟨JS k1 (by simp only [dF,bW]; exact hi) k2 h1 BJ,fun _=>BJ⟩
theorem BK {π:Pl}{n:Int}(h:π.Full): (unpinF π n).2.Full:=by
 unfold unpinF
 split
 ·exact h
 ·split
  ·exact h
  ·rename_i f I
   exact h.set I rfl fun J=>J
theorem fX.pins {π I:Pl}(J:fX π I)(h:∀f∈π.ak,f.pins=0): ∀f∈I.ak,f.pins=0:=fun g hg=>by
 obtain ⟨f,hf,t,rfl⟩:=J.ak g hg
 exact h f hf
theorem vg {ε:aI}{i:Nat}(h:∀f∈ε.1.ak,f.pins=0): ∀f∈(outF ε i).2.1.ak,f.pins=0:=by
 unfold outF
 split
 ·exact h
 ·rename_i f J
  have hm:=bC J
  split
  ·exact h
  ·split
   ·exact h
   ·split
    ·exact h
    ·split
     ·exact h
     ·intro g I
      rcases lM I with I | rfl
      ·exact h g I
      ·exact h f hm
theorem xJ {π:Pl}{i:Nat}{f:Fm}(h:∀f∈π.ak,f.pins=0): ∀f∈(dF π i f).ak,f.pins=0:=by
 intro g I
 rcases lM I with I | rfl
 ·exact h g I
 ·rfl
theorem fY.K3 {ε ε':aI}{n e:Int}{b:List Nat}(hr:fY ε n e b ε')(he:e≠0)(hp:∀f∈ε.1.ak,f.pins=0): ∀f∈ε'.1.ak,f.pins=0:=by
 cases hr with
 | arg _=>exact hp
 | Dj i f h1 h2 hl hf=>exact absurd rfl he
 | out I i f h1 h2 hl J hf hh he=>exact vg (ε:=(I,ε.2)) (J.pins hp)
 | read I i f h1 h2 hl J hf hh he hr=>exact xJ (f:=f) (vg (ε:=(I,ε.2)) (J.pins hp))
 | bad I i f h1 h2 hl J hf hh he hr hc=>exact xJ (f:=f) (vg (ε:=(I,ε.2)) (J.pins hp))
 | load I i f h1 h2 hl J hf hh he hr hc=>exact absurd rfl he
theorem Ih {m:List Fm}{i:Nat}{f g:Fm}(h:∀f∈m,f.pins=0)(J:g.pins=0): ∀x∈(m.set i f).set i g,x.pins=0:=by
 intro x I
 rw [AE] at I
 rcases lM I with I | rfl
 ·exact h x I
 ·exact J
theorem uD {π:Pl}{n:Int}{i:Nat}{f:Fm}(hl:lookL n π.bM=some (i:Int))(I:π.ak[i]?=some f)(J:f.pins=1): heldI π n=some i∧unpinF π n=(0,{ π with ak:=π.ak.set i { f with pins:=0 } }):=by
 have h1:heldI π n=some i:=by
  simp only [heldI,hl,b9,I,J]
  rfl
 refine ⟨h1,?_⟩
 simp only [unpinF,h1,I,J]
 rfl
theorem Rx {α:Type}{n:Int}{x:α}{l:List (Int×α)}: lookL n (cB n x l)=some x:=by rw [gS,aj rfl]
theorem fY.at {ε ε':aI}{n:Int}{b:List Nat}(hr:fY ε n 0 b ε')(hp:∀f∈ε.1.ak,f.pins=0):
  ∃(i:Nat) (f:Fm),lookL n ε'.1.bM=some (i:Int)∧ε'.1.ak[i]?=some f∧f.pins=1∧f.b=b∧∀g:Fm,g.pins=0→∀x∈ε'.1.ak.set i g,x.pins=0:=by
 generalize J:(0:Int)=e at hr
 cases hr with
 | arg _=>cases J
 | Dj i f h1 h2 hl hf =>
  have hi:=(List.getElem?_eq_some_iff.1 hf).1
  refine ⟨i,{ f with eY:=true,pins:=f.pins+1 },hl,by simp [hi],by have:=hp f (bC hf); show f.pins+1=1; omega,rfl,fun g hg=>Ih hp hg⟩
 | out I i f h1 h2 hl hn hf hh he=>exact absurd J.symm he
 | read I i f h1 h2 hl hn hf hh he hr=>exact absurd J.symm hr
 | bad I i f h1 h2 hl hn hf hh he hr hc=>exact absurd J.symm hc
 | load I i f h1 h2 hl hn hf hh he hr hc =>
  obtain ⟨c,ZP⟩:=n_ (ε:=(I,ε.2)) hf
  have hi:=(List.getElem?_eq_some_iff.1 ZP).1
  refine ⟨i,⟨n,_,1,true,false⟩,Rx,gw (by show i<(List.set _ i _).length; rw [bW]; exact hi),rfl,rfl,fun g hg=>Ih (xJ (f:=f) (vg (ε:=(I,ε.2)) (hn.pins hp))) hg⟩
theorem fY.Cd {ε ε':aI}{n:Int}{b:List Nat}(I:fY ε n 0 b ε')(J:∀f∈ε.1.ak,f.pins=0): (unpinF ε'.1 n).1=0∧∀f∈(unpinF ε'.1 n).2.ak,f.pins=0:=by
 obtain ⟨i,f,h1,h2,h3,h4,h5⟩:=I.at J
 rw [(uD h1 h2 h3).2]
 exact ⟨rfl,h5 _ rfl⟩
theorem nk.mj {ε ε':aI}{n e:Int}{b:List Nat}(I:nk ε n e b ε')(h:jk ε): jk ε':=by
 refine ⟨I.ok h.ok h.pins,?_,?_⟩
 ·cases I with
  | dead _=>exact h.pins
  | iP e b ε' J I he=>exact I.K3 he h.pins
  | sO b ε' J I he=>exact (I.Cd h.pins).2
  | read b ε' J I he=>exact (I.Cd h.pins).2
 ·cases I with
  | dead _=>exact h.full
  | iP e b ε' J I he=>exact (I.full h.ok.dk h.full).1
  | sO b ε' J I he=>exact BK (I.full h.ok.dk h.full).1
  | read b ε' J I he=>exact BK (I.full h.ok.dk h.full).1
theorem nk.len {ε ε':aI}{n:Int}{b:List Nat}(J:nk ε n 0 b ε')(h:jk ε): b.length=512:=by
 generalize I:(0:Int)=e at J
 cases J with
 | dead _=>cases I
 | iP e b ε' hd J he=>exact absurd I.symm he
 | sO b ε' hd J he=>exact absurd I.symm he
 | read b ε' hd J he=>exact (J.full h.ok.dk h.full).2 rfl
inductive pL (ε:aI)(now:List (Int×List Nat))(b_:Bool)(n:Int): Int→List Nat→aI→Prop where
 | arg (h:¬(0≤n∧n<ε.2.2.ax.length)):pL ε now b_ n 1 [] ε
 | b_ (h1:0≤n) (h2:n<ε.2.2.ax.length) (h:b_=true):pL ε now b_ n 18 [] ε
 | own (b:List Nat) (h1:0≤n) (h2:n<ε.2.2.ax.length) (h:b_=false) (hl:lookL n now=some b):pL ε now b_ n 0 b ε
 | read (e:Int) (b:List Nat) (ε':aI) (h1:0≤n) (h2:n<ε.2.2.ax.length) (h:b_=false) (hl:lookL n now=none) (hr:nk ε n e b ε'):pL ε now b_ n e b ε'
theorem pL.mj {ε ε':aI}{now:List (Int×List Nat)}{b_:Bool}{n e:Int}{b:List Nat}(I:pL ε now b_ n e b ε')(h:jk ε): jk ε':=by
 cases I with
 | arg _=>exact h
 | b_ _ _ _=>exact h
 | own _ _ _ _ _=>exact h
 | read e b ε' J h2 h3 hl I=>exact I.mj h
theorem OpR.invoke {C:cL}{E:List (Nat×V)}{h:H}{o:Oper}{cl:Go.Call}{x:Operand}{m:String}{t:TypeId}{u:V}{k:FuncId}{args:List V}{R:V→H→Prop}(J:o.op=.call cl)(hc:cl.callee=.invoke x m)
 (hx:lookO E x=some (.iface t u))(hm:methV C.P t m=some k)(ha:lookArgs E cl.args.toList=some args)(I:Am.Call C k (u::args) h R): OpR C E h o R:=by
 obtain ⟨v,h₁,⟨N,hN⟩,hr⟩:=I
 exact ⟨v,h₁,hr,fun env hE=>⟨N,by simp only [evOp,J,evCall,mZ hE ha,hc,bP hE hx,hm]; exact hN⟩⟩
theorem EY : methV Tryz.prog 26 "Read" = some 76 := by kernel_rfl
theorem UW : methV Tryz.prog 24 "Read" = some 113 := by kernel_rfl
theorem TD {h:H}{t e:TypeId}{x y:Operand}(hu:Tryz.prog.underlying t=some (.pointer e)): binV Tryz.prog h .neq t x y .cu .cu=some (.bool false):=by simp only [binV,eqV,hu]; rfl
theorem YX {h:H}{t e:TypeId}{x y:Operand}{i o:Nat}(hu:Tryz.prog.underlying t=some (.pointer e)): binV Tryz.prog h .neq t x y (.ptr i o) .cu=some (.bool true):=by simp only [binV,eqV,hu]; rfl
theorem vh {h:H}{t e:TypeId}{x y:Operand}{i o:Nat}(hu:Tryz.prog.underlying t=some (.pointer e)): binV Tryz.prog h .eql t x y (.ptr i o) .cu=some (.bool false):=by simp only [binV,eqV,hu]; rfl
theorem YY {h:H}{t e:TypeId}{x y:Operand}{i o:Nat}(hu:Tryz.prog.underlying t=some (.pointer e)): binV Tryz.prog h .eql t x y .cu (.ptr i o)=some (.bool false):=by simp only [binV,eqV,hu]; rfl
theorem YZ {h:H}{t e k:TypeId}{x y:Operand}{i j n m:Nat}{cs ds:List V}(hu:Tryz.prog.underlying t=some (.pointer e))(I:bH Tryz.prog e=some k)(J:1≤k)(hi:T.get h.tr i=some (.cells n cs false))(hj:T.get h.tr j=some (.cells m ds false))(hn:1≤n)(hm:1≤m):
  binV Tryz.prog h .eql t x y (.ptr i 0) (.ptr j 0)=some (.bool (Nat.beq i j)):=by
 simp only [binV,eqV,hu,I,aJ.2 J,ag,hi,hj,aJ.2 hn,aJ.2 hm,iu,dR,Bool.and_true,jN]
section
variable {told:cQ} {h:H} {S:List au} {X:au} {r k q p ct a g aH:Nat} {op v x wh di:V} {l b data:List Nat} {π:Pl} {m:List Fm} {μ:Lg} {δ:Dk} {now:List (Int×List Nat)} {b_:Bool}
theorem FN (I:W told)(s:Sat h (dV a p q r .cu data aH::S)): Call ⟨Tryz.prog,told⟩ 45 [.ptr a 0] h fun v h'=>∃g,v=.bj [.ptr g 0,.int .i64 0]∧Sat h' (fZ g a [] false::dV a p q r (.ptr g 0) data aH::S):=by
 obtain ⟨dv,s⟩:=cP.1 s
 refine Call.of_wp (I.free _ rfl) Tryz.func45 rfl rfl (zK 10 rfl (zf rfl (tB _ _) (zl rfl (s.ld (k:=0) rfl L_ rfl) (zh rfl (af rfl rfl (TD ql)) (rfl) (zk 7 rfl ?_)))))
 refine aA.y6 s rfl rfl rfl rfl (fun J h s => ?_)
 refine zo rfl (c_ rfl (by rw [Yz]; rfl)) ?_
 refine aA.b5 s rfl rfl rfl (fe rfl rfl) (fun p13 h s => ?_)
 refine zn rfl (zf rfl (tB _ _) ?_)
 refine zS rfl (by exact s.ey (k:=2) rfl WI rfl (by decide) rfl rfl) (fun h s => ?_)
 refine zk 5 rfl (zf rfl (tB _ _) (zl rfl (s.ld (k:=2) rfl L_ rfl) (zk 3 rfl (WP.ret ⟨aa,_,rfl,?_⟩))))
 have s1:=ur (f:=fun v (b:List Nat)=>.cx v b) (s.ae [1])
 have s:=eG.2 ⟨_,s1.ae [1]⟩
 exact ⟨_,rfl,(cP.2 ⟨dv,s.ae [1,1,0]⟩).ae [1]⟩
theorem Ii (hT:W told){n:Int}(s:Sat h (fZ g a now b_::dV a p q r op data aH::eF r p q π::b8 q p μ::aR p δ::S))(mo:jk (π,μ,δ))(hw:δ.waiting.length≤268435456)(uE:∀e∈now,e.2.length=512):
  Call ⟨Tryz.prog,told⟩ 76 [.ptr g 0,.int .i64 n] h fun v h'=>∃(e:Int) (b:List Nat) (ε:aI),pL (π,μ,δ) now b_ n e b ε ∧
   ((e≠0∧v=.bj [.bw,.int .i64 e]∧Sat h' (fZ g a now b_::dV a p q r op data aH::eF r p q ε.1::b8 q p ε.2.1::aR p ε.2.2::S)) ∨
    (e=0∧∃u,v=.bj [u,.int .i64 0]∧Sat h' (aZ u b::fZ g a now b_::dV a p q r op data aH::eF r p q ε.1::b8 q p ε.2.1::aR p ε.2.2::S))):=by
 have s0:=s
 obtain ⟨nv,s⟩:=eG.1 s
 obtain ⟨dv,s⟩:=cP.1 (s.ae [2])
 dsimp only [bringA,getA,aQ] at s
 refine Call.of_wp (hT.free _ rfl) Tryz.func76 rfl rfl (zK 6 rfl (WP.block (zK 3 rfl ?_)))
 refine zd rfl (af rfl rfl aT) ?_ ?_
 ·intro J
  have J:n<0:=by simpa using J
  exact zk 20 rfl (WP.ret ⟨aa,_,rfl,1,[],_,.arg (by simp only; omega),.inl ⟨by decide,rfl,s0⟩⟩)
 ·intro J
  have J:0≤n:=by simp at J; omega
  refine zk 4 rfl (zf rfl (pq _ _) (zl rfl (s.ld (k:=2) rfl y7 rfl) (zn rfl (zf rfl (rf _ _) (zl rfl (s.ld (k:=0) rfl qZ rfl) (zc rfl (xB hT (s.ae [6])) ?_))))))
  rintro v h ⟨rfl,rfl⟩
  refine zd rfl (af rfl rfl mG) ?_ ?_
  ·intro I
   have I:(δ.ax.length:Int)≤n:=by simpa using I
   exact zk 9 rfl (WP.ret ⟨aa,_,rfl,1,[],_,.arg (by simp only; omega),.inl ⟨by decide,rfl,s0⟩⟩)
  ·intro I
   have I:n<(δ.ax.length:Int):=by simp at I; omega
   refine zk 8 rfl (zf rfl (AS _ _) ?_)
   cases b_ with
   | true =>
    exact zt rfl (bh rfl (s.ld (k:=2) rfl kX rfl)) (rfl) (zk 8 rfl (WP.ret ⟨aa,_,rfl,18,[],_,.b_ J I rfl,.inl ⟨by decide,rfl,s0⟩⟩))
   | false =>
    refine zh rfl (bh rfl (by exact s.ld (k:=2) rfl kX rfl)) (rfl) ?_
    refine za rfl (zv (zj rfl (WP.skip (zw (zg rfl (zk 2 rfl (zf rfl (q_ _ _) (zl rfl (by exact s.ld (k:=2) rfl jS rfl) ?_))))))))
    refine zm rfl ?_
    rcases mz (n:=n) (fun _ _=>aW.cx _ _) (s.ae [3]) lp bD oP with ⟨g1,g2,_⟩ | ⟨u,b,g1,g2,_,s2⟩
    ·refine aA.op rfl rfl rfl (iJ rfl rfl g2) ?_
     refine zk 5 rfl (zv (zg rfl (zm rfl (zv (zj rfl (WP.skip (zg rfl (zk 2 rfl (zf rfl (pq _ _) (zl rfl (by exact s.ld (k:=2) rfl y7 rfl) ?_))))))))))
     refine zm rfl (zc rfl (Cc (n:=n) hT (s0.ae [1,1,1,1]) mo.ok mo.pins hw) ?_)
     rintro v h ⟨e,b,ε,hr,(⟨he,rfl,s⟩ | ⟨rfl,u,rfl,s⟩)⟩
     ·dsimp only [bringA,getA,aQ] at s
      exact zk 5 rfl (WP.ret ⟨aa,_,rfl,e,b,ε,.read e b ε J I rfl g1 hr,.inl ⟨he,rfl,s.ae [4]⟩⟩)
     ·dsimp only [bringA,getA,aQ] at s
      exact zk 5 rfl (WP.ret ⟨aa,_,rfl,0,b,ε,.read 0 b ε J I rfl g1 hr,.inr ⟨rfl,u,rfl,s.ae [0,4]⟩⟩)
    ·dsimp only [bringA,getA,aQ] at s2
     refine zo rfl (iJ rfl rfl g2) (zk 14 rfl ?_)
     have hb:=uE _ (gU g1)
     refine zc rfl (mH hT s2 (dy _ _) (by simp only at hb; omega)) ?_
     intro v h s
     refine zk 3 rfl (WP.ret ⟨aa,_,rfl,?_⟩)
     have s:=cP.2 ⟨dv,s.ae [3,3,0,0,0,0,0,0,0]⟩
     have s:=eG.2 ⟨nv,s.ae [4,3]⟩
     exact ⟨0,b,_,.own b J I rfl g1,.inr ⟨rfl,v,rfl,((s.ae [2,0,0,1,1,1]).del 6)⟩⟩
end
inductive uF (ε:aI)(now:List (Int×List Nat))(b_:Bool)(n:Int)(b:List Nat): Int→List (Int×List Nat)→aI→Prop where
 | may (e:Int) (c:List Nat) (ε':aI) (hr:pL ε now b_ n e c ε') (he:e≠0):uF ε now b_ n b e now ε'
 | bad (c:List Nat) (ε':aI) (hr:pL ε now b_ n 0 c ε') (hg:b7 b=false):uF ε now b_ n b 4 now ε'
 | done (c:List Nat) (ε':aI) (hr:pL ε now b_ n 0 c ε') (hg:b7 b=true):uF ε now b_ n b 0 (cB n b now) ε'
theorem uF.mj {ε ε':aI}{now cS:List (Int×List Nat)}{b_:Bool}{n e:Int}{b:List Nat}(I:uF ε now b_ n b e cS ε')(h:jk ε): jk ε':=by
 cases I with
 | may e c ε' I he=>exact I.mj h
 | bad c ε' I J=>exact I.mj h
 | done c ε' I J=>exact I.mj h
section
variable {told:cQ} {h:H} {S:List au} {X:au} {r k q p ct a g aH:Nat} {op v x wh di:V} {l b data:List Nat} {π:Pl} {m:List Fm} {μ:Lg} {δ:Dk} {now:List (Int×List Nat)} {b_:Bool}
theorem Xj (hT:W told){n:Int}(s:Sat h (fZ g a now b_::dV a p q r op data aH::eF r p q π::b8 q p μ::aR p δ::S))(J:jk (π,μ,δ))(hw:δ.waiting.length≤268435456)(I:∀e∈now,e.2.length=512):
  Call ⟨Tryz.prog,told⟩ 106 [.iface 26 (.ptr g 0),.int .i64 n] h fun v h'=>∃(e:Int) (b:List Nat) (ε:aI),pL (π,μ,δ) now b_ n e b ε∧v=.int .i64 e ∧
   Sat h' (fZ g a now b_::dV a p q r op data aH::eF r p q ε.1::b8 q p ε.2.1::aR p ε.2.2::S):=by
 refine Call.of_wp (hT.free _ rfl) Tryz.func106 rfl rfl (zK 8 rfl (aA.any rfl rfl rfl (OpR.invoke rfl rfl rfl EY rfl (Ii (n:=n) hT s J hw I)) ?_))
 rintro v h ⟨e,b,ε,hr,(⟨he,rfl,s⟩ | ⟨rfl,u,rfl,s⟩)⟩
 ·refine aA.op rfl rfl rfl (bz rfl) ?_
  exact zk 10 rfl (WP.ret ⟨aa,_,rfl,e,b,ε,hr,rfl,s⟩)
 ·skip
  exact zk 11 rfl (WP.ret ⟨aa,_,rfl,0,b,ε,hr,rfl,s.drop⟩)
theorem O5 (hT:W told){n:Int}(s:Sat h (fZ g a now b_::dV a p q r op data aH::eF r p q π::b8 q p μ::aR p δ::X::S))(hX:cT X (cU x b))(hb:b.length<9223372036854775808)(mo:jk (π,μ,δ))(hw:δ.waiting.length≤268435456)(J:∀e∈now,e.2.length=512):
  Call ⟨Tryz.prog,told⟩ 49 [.ptr g 0,.int .i64 n,x] h fun v h'=>∃(e:Int) (cS:List (Int×List Nat)) (ε:aI),uF (π,μ,δ) now b_ n b e cS ε∧v=.int .i64 e ∧
   Sat h' (fZ g a cS b_::dV a p q r op data aH::eF r p q ε.1::b8 q p ε.2.1::aR p ε.2.2::X::S):=by
 refine Call.of_wp (hT.free _ rfl) Tryz.func49 rfl rfl (zK 8 rfl (zo rfl (u9 rfl (rW ql rfl)) (zm rfl (zc rfl (Xj (n:=n) hT s mo hw J) ?_))))
 rintro v h ⟨e,c,ε,hr,rfl,s⟩
 refine zk 5 rfl ?_
 by_cases he:e=0
 ·skip
  subst he
  refine zh rfl (af rfl rfl aN) (rfl) (zk 7 rfl (zc rfl (KP hT (s.ae [5]) hX hb) ?_))
  rintro v h ⟨rfl,s⟩
  refine zo rfl (eD rfl rfl) (zv ?_)
  by_cases I:b7 b=true
  ·skip
   refine WP.Tc rfl (by rw [I]; rfl) ?_
   have aaN:=eX I
   obtain ⟨nv,s⟩:=eG.1 (s.ae [1])
   have s:=s.ae [2,0,0]
   obtain ⟨wO,rfl⟩:=HI s (j:=2) rfl
   refine zK 2 rfl ?_
   have s0:=s
   refine WP.drawn [some (0,2),some (0,2),some (0,2),some (0,2),some (0,2),ai,ai,ai] rfl (by kernel_rfl) (by kernel_rfl) ?_
   refine zM rfl (zN rfl (zF rfl (q_ _ _) (zL rfl (s.ld (k:=1) rfl jS rfl) (zM rfl (zM rfl (aB.any rfl rfl rfl rfl (OpR.call rfl rfl rfl rfl (mH hT s hX (by omega))) ?_))))))
   intro u h s
   obtain ⟨qw,_,cap,_,rfl,_⟩:=s.fI (by omega)
   have s:=s.fU
   have s1:=s
   refine aB.i_ rfl rfl rfl (OpR.mapUpdate rfl rfl rfl rfl (oR (f:=fun v b=>au.cx v b) (x:=b) (fun _ _=>aW.cx _ _) (s.ae [0,2]) lp bD)) ?_
   intro w h s
   refine aB.nil ⟨⟨fun _ _=>.inr ⟨rfl,⟨_,bz rfl⟩,bq _ rfl⟩,fun _ _=>.inr ⟨rfl,⟨_,oK rfl⟩,bq _ rfl⟩,fun _ _=>.inr ⟨rfl,⟨_,lY rfl (q_ _ _)⟩,bq _ rfl⟩,dW (.inr ⟨rfl,⟨_,bh rfl (s0.ld (k:=1) rfl jS rfl)⟩,bq _ rfl⟩) (.inr ⟨rfl,⟨_,bh rfl (s1.ld (k:=2) rfl jS rfl)⟩,bq _ rfl⟩),fun _ _=>.inr ⟨rfl,⟨_,bz rfl⟩,bq _ rfl⟩,aa,aa,aa,aa⟩,?_⟩
   exact zK 4 rfl (WP.ret ⟨aa,_,rfl,0,_,ε,.done c ε hr I,rfl,eG.2 ⟨.map wO,s.ae [2,0,1,1,1,1,0]⟩⟩)
  ·have I:b7 b=false:=by simpa using I
   refine WP.L9 rfl (by rw [I]; rfl) ?_
   exact zK 4 rfl (WP.ret ⟨aa,_,rfl,4,_,ε,.bad c ε hr I,rfl,s.ae [1,1,1,1,1,0]⟩)
 ·skip
  refine zt rfl (af rfl rfl aN) (by simp; exact he) ?_
  exact zk 7 rfl (WP.ret ⟨aa,_,rfl,e,_,ε,.may e c ε hr he,rfl,s⟩)
theorem FO (I:W told)(s:Sat h (fZ g a now b_::dV a p q r (.ptr g 0) data aH::S)): Call ⟨Tryz.prog,told⟩ 60 [.ptr g 0] h fun v h'=>v=.bj []∧Sat h' (fZ g a now true::dV a p q r .cu data aH::S):=by
 obtain ⟨J,s⟩:=eG.1 s
 obtain ⟨dv,s⟩:=cP.1 (s.ae [2])
 refine Call.of_wp (I.free _ rfl) Tryz.func60 rfl rfl (zK 4 rfl (zf rfl (AS _ _) ?_))
 refine zS rfl (by exact s.ey (k:=2) rfl uf rfl (by decide) rfl rfl) (fun h s => ?_)
 refine zk 5 rfl (zf rfl (pq _ _) (zl rfl (s.ld (k:=2) rfl y7 rfl) (zn rfl (zf rfl (tB _ _) (zl rfl (s.ld (k:=0) rfl L_ rfl) (zm rfl (zt rfl (af rfl rfl (YZ ql Yy (by decide) (s.row (k:=2) rfl) (s.row (k:=2) rfl) (by decide) (by decide))) (dR g) ?_)))))))
 refine zk 5 rfl (zf rfl (pq _ _) (zl rfl (s.ld (k:=2) rfl y7 rfl) (zn rfl (zf rfl (tB _ _) ?_))))
 refine zS rfl (by exact s.ey (k:=0) rfl WI rfl (by decide) rfl rfl) (fun h s => ?_)
 refine zv ?_
 have s:=eG.2 ⟨J,(cP.2 ⟨dv,s⟩).ae [1,1]⟩
 exact ⟨aa,_,rfl,rfl,s⟩
theorem Ry (I:W told)(s:Sat h (fZ g a now b_::dV a p q r (.ptr g 0) data aH::S)): Call ⟨Tryz.prog,told⟩ 33 [.ptr g 0] h fun v h'=>v=.bj []∧Sat h' (fZ g a now true::dV a p q r .cu data aH::S):=by
 refine Call.of_wp (I.free _ rfl) Ig rfl rfl (zK 2 rfl (zc rfl (FO I s) ?_))
 rintro v h ⟨rfl,s⟩
 exact zv ⟨aa,_,rfl,rfl,s⟩
theorem JT (I:W told)(s:Sat h (fZ g a now b_::dV a p q r .cu data aH::S)): Call ⟨Tryz.prog,told⟩ 60 [.ptr g 0] h fun v h'=>v=.bj []∧Sat h' (fZ g a now true::dV a p q r .cu data aH::S):=by
 obtain ⟨J,s⟩:=eG.1 s
 obtain ⟨dv,s⟩:=cP.1 (s.ae [2])
 dsimp only [bringA,getA,aQ] at s
 refine Call.of_wp (I.free _ rfl) Tryz.func60 rfl rfl (zK 4 rfl (zf rfl (AS _ _) ?_))
 refine zS rfl (by exact s.ey (k:=2) rfl uf rfl (by decide) rfl rfl) (fun h s => ?_)
 dsimp only [r6,Nat.reduceAdd,List.set,setA] at s
 refine zv (zg rfl (zk 2 rfl (zf rfl (pq _ _) (zl rfl (by exact s.ld (k:=2) rfl y7 rfl) ?_))))
 refine zn rfl (zf rfl (tB _ _) (zl rfl (by exact s.ld (k:=0) rfl L_ rfl) ?_))
 refine zm rfl (zh rfl (af rfl rfl (YY ql)) (rfl) (zv (zj rfl (WP.skip ?_))))
 have s:=eG.2 ⟨J,(cP.2 ⟨dv,s⟩).ae [1,1]⟩
 exact ⟨aa,_,rfl,rfl,s⟩
theorem MC (I:W told)(s:Sat h (fZ g a now b_::dV a p q r .cu data aH::S)): Call ⟨Tryz.prog,told⟩ 33 [.ptr g 0] h fun v h'=>v=.bj []∧Sat h' (fZ g a now true::dV a p q r .cu data aH::S):=by
 refine Call.of_wp (I.free _ rfl) Ig rfl rfl (zK 2 rfl (zc rfl (JT I s) ?_))
 rintro v h ⟨rfl,s⟩
 exact zv ⟨aa,_,rfl,rfl,s⟩
end
end Go.Proofs.YtefepnnfphdkpaaGreat.Am
