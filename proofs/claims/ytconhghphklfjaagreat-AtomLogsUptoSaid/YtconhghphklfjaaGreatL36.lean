/- After a crash the log has the records of the groups that are there and no others, with their numbers and data; the conditions are those of the given statement, for arguments that a machine can hold. Part 36 of 54. -/
import Derived.Test.YtconhghphklfjaaGreatL35
namespace Go.Proofs.YtconhghphklfjaaGreat.Am
open Go
structure Pl.Full (π:Pl): Prop where
 nodup:(π.aZ.map (·.1)).Nodup
 jy:∀n i,lookL n π.aZ=some i→0≤n∧∃f,π.ag[i.toNat]?=some f∧f.aO=n∧f.b.length=512
structure ga (ε:aM): Prop where
 ok:rY ε
 pins:∀f∈ε.1.ag,f.pins=0
 full:ε.1.Full
theorem Pl.Full.set {π:Pl}{i:Nat}{f g:Fm}{d:List (Int×(Nat×Bool))}(h:π.Full)(U:π.ag[i]?=some f)(hp:g.aO=f.aO)(hl:f.b.length=512→g.b.length=512): Pl.Full { π with ag:=π.ag.set i g,cC:=d }:=by
 refine ⟨h.nodup,fun n j hj => ?_⟩
 obtain ⟨h1,f',J,h3,h4⟩:=h.jy n j hj
 refine ⟨h1,?_⟩
 by_cases I:i=j.toNat
 ·subst I
  rw [U] at J
  have:=Option.some.inj J
  subst this
  exact ⟨g,List.getElem?_set_self (List.getElem?_eq_some_iff.1 U).1,hp.trans h3,hl h4⟩
 ·exact ⟨f',by simp only [List.getElem?_set_ne I]; exact J,h3,h4⟩
theorem dU.full {π I:Pl}(J:dU π I)(h:π.Full): I.Full:=by
 refine ⟨by rw [J.aZ]; exact h.nodup,fun n j U => ?_⟩
 rw [J.aZ] at U
 obtain ⟨h1,f',h2,h3,h4⟩:=h.jy n j U
 obtain ⟨t,ht⟩:=J.get _ _ h2
 exact ⟨h1,_,ht,h3,h4⟩
theorem oC {ε:aM}{i:Nat}(h:ε.1.Full): (outF ε i).2.1.Full:=by
 unfold outF
 split
 ·exact h
 ·rename_i f I
  split
  ·exact h
  ·split
   ·exact h
   ·split
    ·exact h
    ·split
     ·exact h
     ·exact h.set I rfl fun J=>J
theorem ql {π:Pl}{i:Nat}{f g:Fm}(h:π.Full)(hg:π.ag[i]?=some g)(hp:g.aO=f.aO): (cD π i f).Full∧∀n j,lookL n (cD π i f).aZ=some j→j.toNat≠i:=by
 have key:∀n j,lookL n (cD π i f).aZ=some j→lookL n π.aZ=some j∧j.toNat≠i:=by
  intro n j I
  by_cases hf:f.aO<0
  ·have hw:(cD π i f).aZ=π.aZ:=by simp only [cD,if_pos hf]
   rw [hw] at I
   refine ⟨I,fun hi => ?_⟩
   obtain ⟨U,f',J,h3,_⟩:=h.jy n j I
   rw [hi,hg] at J
   have:=Option.some.inj J
   subst this
   omega
  ·have hw:(cD π i f).aZ=jb f.aO π.aZ:=by simp only [cD,if_neg hf]
   rw [hw,xH h.nodup] at I
   by_cases hn:f.aO=n
   ·rw [if_pos hn] at I; cases I
   ·rw [if_neg hn] at I
    refine ⟨I,fun hi => ?_⟩
    obtain ⟨U,f',J,h3,_⟩:=h.jy n j I
    rw [hi,hg] at J
    have:=Option.some.inj J
    subst this
    omega
 refine ⟨⟨?_,fun n j I => ?_⟩,fun n j I=>(key n j I).2⟩
 ·unfold cD
  simp only
  split
  ·exact h.nodup
  ·exact p_ h.nodup
 ·obtain ⟨U,J⟩:=key n j I
  obtain ⟨h3,f',h4,h5,h6⟩:=h.jy n j U
  exact ⟨h3,f',by simp only [cD,List.getElem?_set_ne (Ne.symm J)]; exact h4,h5,h6⟩
theorem BX {π:Pl}{i:Nat}{n:Int}{b:List Nat}(h:π.Full)(hi:i<π.ag.length)(J:∀n j,lookL n π.aZ=some j→j.toNat≠i)(U:0≤n)(hb:b.length=512): (gR π i n b).Full:=by
 refine ⟨fQ h.nodup,fun m j I => ?_⟩
 simp only [gR,mw] at I
 by_cases hm:n=m
 ·rw [if_pos hm] at I
  have:=Option.some.inj I
  subst this; subst hm
  exact ⟨U,⟨n,b,1,true,false⟩,List.getElem?_set_self hi,rfl,hb⟩
 ·rw [if_neg hm] at I
  obtain ⟨h3,f',h4,h5,h6⟩:=h.jy m j I
  exact ⟨h3,f',by simp only [gR,List.getElem?_set_ne (Ne.symm (J m j I))]; exact h4,h5,h6⟩
theorem dV.full {ε ε':aM}{n e:Int}{b:List Nat}(hr:dV ε n e b ε')(hd:ε.2.2.Ok)(h:ε.1.Full): ε'.1.Full∧(e=0→b.length=512):=by
 cases hr with
 | arg _=>exact ⟨h,fun h=>(by cases h)⟩
 | xV i f h1 h2 hl U =>
  refine ⟨h.set U rfl fun hl=>hl,fun _ => ?_⟩
  obtain ⟨_,f',h4,_,h6⟩:=h.jy n i hl
  rw [Int.toNat_natCast,U] at h4
  have:=Option.some.inj h4
  subst this
  exact h6
 | out I i f h1 h2 hl hn U hh he=>exact ⟨oC (ε:=(I,ε.2)) (hn.full h),fun h=>absurd h he⟩
 | read I i f h1 h2 hl hn U hh he hr =>
  obtain ⟨c,J⟩:=jJ (ε:=(I,ε.2)) U
  exact ⟨(ql (f:=f) (oC (ε:=(I,ε.2)) (hn.full h)) J rfl).1,fun h=>absurd h hr⟩
 | bad I i f h1 h2 hl hn U hh he hr hc =>
  obtain ⟨c,J⟩:=jJ (ε:=(I,ε.2)) U
  exact ⟨(ql (f:=f) (oC (ε:=(I,ε.2)) (hn.full h)) J rfl).1,fun h=>absurd h hc⟩
 | load I i f h1 h2 hl hn U hh he hr hc =>
  obtain ⟨c,J⟩:=jJ (ε:=(I,ε.2)) U
  have hi:=(List.getElem?_eq_some_iff.1 J).1
  obtain ⟨k1,k2⟩:=ql (f:=f) (oC (ε:=(I,ε.2)) (hn.full h)) J rfl
  have QG:=(ux (ε:=(I,ε.2)) (i:=i) hd).at n
  exact ⟨BX k1 (by simp only [cD,List.length_set]; exact hi) k2 h1 QG,fun _=>QG⟩
theorem tV {π:Pl}{n:Int}(h:π.Full): (unpinF π n).2.Full:=by
 unfold unpinF
 split
 ·exact h
 ·split
  ·exact h
  ·rename_i f I
   exact h.set I rfl fun J=>J
theorem dU.pins {π I:Pl}(J:dU π I)(h:∀f∈π.ag,f.pins=0): ∀f∈I.ag,f.pins=0:=fun g U=>by
 obtain ⟨f,hf,t,rfl⟩:=J.ag g U
 exact h f hf
theorem oD {ε:aM}{i:Nat}(h:∀f∈ε.1.ag,f.pins=0): ∀f∈(outF ε i).2.1.ag,f.pins=0:=by
 unfold outF
 split
 ·exact h
 ·rename_i f J
  have hm:=List.mem_of_getElem? J
  split
  ·exact h
  ·split
   ·exact h
   ·split
    ·exact h
    ·split
     ·exact h
     ·intro g I
      rcases List.mem_or_eq_of_mem_set I with I | rfl
      ·exact h g I
      ·exact h f hm
theorem qm {π:Pl}{i:Nat}{f:Fm}(h:∀f∈π.ag,f.pins=0): ∀f∈(cD π i f).ag,f.pins=0:=by
 intro g I
 rcases List.mem_or_eq_of_mem_set I with I | rfl
 ·exact h g I
 ·rfl
theorem dV.C1 {ε ε':aM}{n e:Int}{b:List Nat}(U:dV ε n e b ε')(he:e≠0)(hp:∀f∈ε.1.ag,f.pins=0): ∀f∈ε'.1.ag,f.pins=0:=by
 cases U with
 | arg _=>exact hp
 | xV i f h1 h2 hl hf=>exact absurd rfl he
 | out I i f h1 h2 hl J hf hh he=>exact oD (ε:=(I,ε.2)) (J.pins hp)
 | read I i f h1 h2 hl J hf hh he U=>exact qm (f:=f) (oD (ε:=(I,ε.2)) (J.pins hp))
 | bad I i f h1 h2 hl J hf hh he U hc=>exact qm (f:=f) (oD (ε:=(I,ε.2)) (J.pins hp))
 | load I i f h1 h2 hl J hf hh he U hc=>exact absurd rfl he
theorem AH {m:List Fm}{i:Nat}{f g:Fm}(h:∀f∈m,f.pins=0)(J:g.pins=0): ∀x∈(m.set i f).set i g,x.pins=0:=by
 intro x I
 rw [List.set_set] at I
 rcases List.mem_or_eq_of_mem_set I with I | rfl
 ·exact h x I
 ·exact J
theorem n_ {π:Pl}{n:Int}{i:Nat}{f:Fm}(hl:lookL n π.aZ=some (i:Int))(I:π.ag[i]?=some f)(J:f.pins=1): heldI π n=some i∧unpinF π n=(0,{ π with ag:=π.ag.set i { f with pins:=0 } }):=by
 have U:heldI π n=some i:=by
  simp only [heldI,hl,Int.toNat_natCast,I,J]
  rfl
 refine ⟨U,?_⟩
 simp only [unpinF,U,I,J]
 rfl
theorem AI {α:Type}{n:Int}{x:α}{l:List (Int×α)}: lookL n (cA n x l)=some x:=by rw [mw,if_pos rfl]
theorem dV.at {ε ε':aM}{n:Int}{b:List Nat}(hr:dV ε n 0 b ε')(hp:∀f∈ε.1.ag,f.pins=0):
  ∃(i:Nat) (f:Fm),lookL n ε'.1.aZ=some (i:Int)∧ε'.1.ag[i]?=some f∧f.pins=1∧f.b=b∧∀g:Fm,g.pins=0→∀x∈ε'.1.ag.set i g,x.pins=0:=by
 generalize J:(0:Int)=e at hr
 cases hr with
 | arg _=>cases J
 | xV i f h1 h2 hl U =>
  have hi:=(List.getElem?_eq_some_iff.1 U).1
  refine ⟨i,{ f with dn:=true,pins:=f.pins+1 },hl,by simp [hi],by have:=hp f (List.mem_of_getElem? U); show f.pins+1=1; omega,rfl,fun g hg=>AH hp hg⟩
 | out I i f h1 h2 hl hn U hh he=>exact absurd J.symm he
 | read I i f h1 h2 hl hn U hh he hr=>exact absurd J.symm hr
 | bad I i f h1 h2 hl hn U hh he hr hc=>exact absurd J.symm hc
 | load I i f h1 h2 hl hn U hh he hr hc =>
  obtain ⟨c,Qg⟩:=jJ (ε:=(I,ε.2)) U
  have hi:=(List.getElem?_eq_some_iff.1 Qg).1
  refine ⟨i,⟨n,_,1,true,false⟩,AI,List.getElem?_set_self (by show i<(List.set _ i _).length; rw [List.length_set]; exact hi),rfl,rfl,fun g hg=>AH (qm (f:=f) (oD (ε:=(I,ε.2)) (hn.pins hp))) hg⟩
theorem dV.uB {ε ε':aM}{n:Int}{b:List Nat}(I:dV ε n 0 b ε')(J:∀f∈ε.1.ag,f.pins=0): (unpinF ε'.1 n).1=0∧∀f∈(unpinF ε'.1 n).2.ag,f.pins=0:=by
 obtain ⟨i,f,U,h2,h3,h4,h5⟩:=I.at J
 rw [(n_ U h2 h3).2]
 exact ⟨rfl,h5 _ rfl⟩
theorem kK.kL {ε ε':aM}{n e:Int}{b:List Nat}(I:kK ε n e b ε')(h:ga ε): ga ε':=by
 refine ⟨I.ok h.ok h.pins,?_,?_⟩
 ·cases I with
  | dead _=>exact h.pins
  | gS e b ε' J I he=>exact I.C1 he h.pins
  | oB b ε' J I he=>exact (I.uB h.pins).2
  | read b ε' J I he=>exact (I.uB h.pins).2
 ·cases I with
  | dead _=>exact h.full
  | gS e b ε' J I he=>exact (I.full h.ok.dk h.full).1
  | oB b ε' J I he=>exact tV (I.full h.ok.dk h.full).1
  | read b ε' J I he=>exact tV (I.full h.ok.dk h.full).1
theorem kK.len {ε ε':aM}{n:Int}{b:List Nat}(J:kK ε n 0 b ε')(h:ga ε): b.length=512:=by
 generalize I:(0:Int)=e at J
 cases J with
 | dead _=>cases I
 | gS e b ε' U J he=>exact absurd I.symm he
 | oB b ε' U J he=>exact absurd I.symm he
 | read b ε' U J he=>exact (J.full h.ok.dk h.full).2 rfl
inductive kM (ε:aM)(now:List (Int×List Nat))(bq:Bool)(n:Int): Int→List Nat→aM→Prop where
 | arg (h:¬(0≤n∧n<ε.2.2.aj.length)):kM ε now bq n 1 [] ε
 | bq (h1:0≤n) (h2:n<ε.2.2.aj.length) (h:bq=true):kM ε now bq n 18 [] ε
 | own (b:List Nat) (h1:0≤n) (h2:n<ε.2.2.aj.length) (h:bq=false) (hl:lookL n now=some b):kM ε now bq n 0 b ε
 | read (e:Int) (b:List Nat) (ε':aM) (h1:0≤n) (h2:n<ε.2.2.aj.length) (h:bq=false) (hl:lookL n now=none) (hr:kK ε n e b ε'):kM ε now bq n e b ε'
theorem kM.kL {ε ε':aM}{now:List (Int×List Nat)}{bq:Bool}{n e:Int}{b:List Nat}(I:kM ε now bq n e b ε')(h:ga ε): ga ε':=by
 cases I with
 | arg _=>exact h
 | bq _ _ _=>exact h
 | own _ _ _ _ _=>exact h
 | read e b ε' J U h3 hl I=>exact I.kL h
theorem OpR.invoke {C:cf}{E:List (Nat×V)}{h:H}{o:Oper}{cl:Go.Call}{x:Operand}{m:String}{t:TypeId}{u:V}{k:FuncId}{args:List V}{R:V→H→Prop}(J:o.op=.call cl)(hc:cl.callee=.invoke x m)
 (hx:lookO E x=some (.iface t u))(hm:methV C.P t m=some k)(ha:lookArgs E cl.args.toList=some args)(I:Am.Call C k (u::args) h R): OpR C E h o R:=by
 obtain ⟨v,h₁,⟨N,hN⟩,hr⟩:=I
 exact ⟨v,h₁,hr,fun env U=>⟨N,by simp only [evOp,J,evCall,jU U ha,hc,bf U hx,hm]; exact hN⟩⟩
theorem C2 : methV Tryz.prog 27 "Read" = some 18 := by kernel_rfl
theorem Kl {h:H}{t e:TypeId}{x y:Operand}(hu:Tryz.prog.underlying t=some (.pointer e)): binV Tryz.prog h .neq t x y .bI .bI=some (.bool false):=by simp only [binV,eqV,hu]; rfl
theorem Pk {h:H}{t e:TypeId}{x y:Operand}{i o:Nat}(hu:Tryz.prog.underlying t=some (.pointer e)): binV Tryz.prog h .neq t x y (.ptr i o) .bI=some (.bool true):=by simp only [binV,eqV,hu]; rfl
theorem vN {h:H}{t e:TypeId}{x y:Operand}{i o:Nat}(hu:Tryz.prog.underlying t=some (.pointer e)): binV Tryz.prog h .eql t x y (.ptr i o) .bI=some (.bool false):=by simp only [binV,eqV,hu]; rfl
theorem Pm {h:H}{t e k:TypeId}{x y:Operand}{i j n m:Nat}{cs ds:List V}(hu:Tryz.prog.underlying t=some (.pointer e))(I:aY Tryz.prog e=some k)(J:1≤k)(hi:T.get h.tr i=some (.cells n cs false))(U:T.get h.tr j=some (.cells m ds false))(hn:1≤n)(hm:1≤m):
  binV Tryz.prog h .eql t x y (.ptr i 0) (.ptr j 0)=some (.bool (Nat.beq i j)):=by
 simp only [binV,eqV,hu,I,ay.2 J,cond_true,hi,U,ay.2 hn,ay.2 hm,Bool.and_self,Nat.beq_refl,Bool.and_true,Option.map_some]
section
variable {told:Nat→Option (List V→H→Option (V×H))} {h:H} {S:List ah} {X:ah} {r k q p bw a g aK:Nat} {op v x wh di:V} {l b data:List Nat} {π:Pl} {m:List Fm} {μ:Lg} {δ:Dk} {now:List (Int×List Nat)} {bq:Bool}
theorem GG (I:W told)(s:Sat h (cz a p q r .bI data aK::S)): Call ⟨Tryz.prog,told⟩ 13 [.ptr a 0] h fun v h'=>∃g,v=.aW [.ptr g 0,.int .i64 0]∧Sat h' (eE g a [] false::cz a p q r (.ptr g 0) data aK::S):=by
 obtain ⟨dv,s⟩:=bQ.1 s
 refine Call.of_wp (I.free _ rfl) Tryz.func13 rfl rfl (zg rfl (za rfl (za rfl (zv (zw (zg rfl (zm rfl (zn rfl (zf rfl (rM _ _) (zl rfl (by exact s.ld (k:=0) rfl Ih rfl) ?_))))))))))
 refine ae.aE rfl rfl rfl (af rfl rfl (Kl Tryz.underlying27)) (rfl) (zv (zj rfl (WP.skip (zg rfl (zm rfl (zm rfl ?_))))))
 refine ae.rH s rfl rfl rfl rfl (fun J h s => ?_)
 refine zo rfl (bW rfl (by rw [RG]; rfl)) ?_
 refine ae.bO s rfl rfl rfl (ff rfl rfl) (fun U h s => ?_)
 dsimp only [V.cells,List.take,List.length_cons,List.length_nil,Nat.reduceAdd,List.drop,List.cons_append,List.nil_append,j6] at s
 refine zn rfl (zf rfl (rM _ _) ?_)
 refine ae.bn rfl rfl rfl rfl rfl (by exact s.cZ (k:=2) rfl Nj rfl (by decide) rfl rfl) (fun h s => ?_)
 dsimp only [Nat.reduceAdd,List.set,setA] at s
 refine zv (zg rfl (zm rfl (zn rfl (zf rfl (rM _ _) (zl rfl (by exact s.ld (k:=2) rfl Ih rfl) ?_)))))
 refine za rfl (za rfl (zv ?_))
 refine WP.ret ⟨trivial,_,rfl,?_⟩
 have s1:=nT (f:=fun v (b:List Nat)=>.bp v b) (s.aa [1])
 dsimp only [bringA,getA,ai] at s1
 have s:=dc.2 ⟨_,s1.aa [1]⟩
 dsimp only [bringA,getA,ai] at s
 exact ⟨_,rfl,(bQ.2 ⟨dv,s.aa [1,1,0]⟩).aa [1]⟩
theorem AJ (hT:W told){n:Int}(s:Sat h (eE g a now bq::cz a p q r op data aK::cB r p q π::bj q p μ::az p δ::S))(U:ga (π,μ,δ))(hw:δ.waiting.length≤268435456)(ko:∀e∈now,e.2.length=512):
  Call ⟨Tryz.prog,told⟩ 18 [.ptr g 0,.int .i64 n] h fun v h'=>∃(e:Int) (b:List Nat) (ε:aM),kM (π,μ,δ) now bq n e b ε ∧
   ((e≠0∧v=.aW [.aH,.int .i64 e]∧Sat h' (eE g a now bq::cz a p q r op data aK::cB r p q ε.1::bj q p ε.2.1::az p ε.2.2::S)) ∨
    (e=0∧∃u,v=.aW [u,.int .i64 0]∧Sat h' (a_ u b::eE g a now bq::cz a p q r op data aK::cB r p q ε.1::bj q p ε.2.1::az p ε.2.2::S))):=by
 have s0:=s
 obtain ⟨nv,s⟩:=dc.1 s
 obtain ⟨dv,s⟩:=bQ.1 (s.aa [2])
 dsimp only [bringA,getA,ai] at s
 refine Call.of_wp (hT.free _ rfl) Tryz.func18 rfl rfl (zg rfl (za rfl (za rfl (zv (zw (WP.block (zg rfl (zm rfl ?_))))))))
 refine ae.dh rfl rfl rfl (af rfl rfl aX) ?_ ?_
 ·intro J
  have J:n<0:=by simpa using J
  refine zm rfl (zx rfl (zx rfl (zx rfl (zx rfl (zx rfl (zx rfl (zx rfl (zx rfl (zx rfl (zx rfl (zq rfl (za rfl (zv (zi rfl (zg rfl (za rfl (za rfl (zv ?_))))))))))))))))))
  refine WP.ret ⟨trivial,_,rfl,?_⟩
  exact ⟨1,[],_,.arg (by simp only; omega),.inl ⟨by decide,rfl,s0⟩⟩
 ·intro J
  have J:0≤n:=by simp at J; omega
  refine zm rfl (zm rfl (zm rfl (zn rfl (zf rfl (nP _ _) (zl rfl (by exact s.ld (k:=2) rfl um rfl) ?_)))))
  refine zn rfl (zf rfl (o6 _ _) (zl rfl (by exact s.ld (k:=0) rfl mF rfl) ?_))
  refine ae.call rfl rfl rfl rfl rfl rfl rfl (uv hT (s.aa [6])) ?_
  rintro v h ⟨rfl,rfl⟩
  refine ae.dh rfl rfl rfl (af rfl rfl kZ) ?_ ?_
  ·intro I
   have I:(δ.aj.length:Int)≤n:=by simpa using I
   refine zp rfl (za rfl (zv (zi rfl (zg rfl (za rfl (za rfl (zv ?_)))))))
   refine WP.ret ⟨trivial,_,rfl,?_⟩
   exact ⟨1,[],_,.arg (by simp only; omega),.inl ⟨by decide,rfl,s0⟩⟩
  ·intro I
   have I:n<(δ.aj.length:Int):=by simp at I; omega
   refine zp rfl (za rfl (zv (zj rfl (zg rfl (zm rfl (zn rfl (zf rfl (z8 _ _) ?_)))))))
   cases bq with
   | true =>
    refine ae.aR rfl rfl rfl (aI rfl (by exact s.ld (k:=2) rfl gU rfl)) (rfl) ?_
    refine za rfl (zv (zi rfl (zg rfl (za rfl (za rfl (zv ?_))))))
    refine WP.ret ⟨trivial,_,rfl,?_⟩
    exact ⟨18,[],_,.bq J I rfl,.inl ⟨by decide,rfl,s0⟩⟩
   | false =>
    refine ae.aE rfl rfl rfl (aI rfl (by exact s.ld (k:=2) rfl gU rfl)) (rfl) ?_
    refine za rfl (zv (zj rfl (WP.skip (zw (zg rfl (zm rfl (zn rfl (zf rfl (nQ _ _) (zl rfl (by exact s.ld (k:=2) rfl iD rfl) ?_)))))))))
    refine zm rfl ?_
    rcases iL (n:=n) (fun _ _=>aq.bp _ _) (s.aa [3]) Tryz.underlying86 Tryz.underlying3 rI with ⟨g1,g2,_⟩ | ⟨u,b,g1,g2,_,s2⟩
    ·refine ae.op rfl rfl rfl (fo rfl rfl g2) ?_
     refine zm rfl (ze rfl (ze rfl (za rfl (za rfl (zv (zg rfl (zm rfl (zv (zj rfl (WP.skip (zg rfl (zm rfl (zn rfl (zf rfl (nP _ _) (zl rfl (by exact s.ld (k:=2) rfl um rfl) ?_)))))))))))))))
     refine zm rfl (ae.call rfl rfl rfl rfl rfl rfl rfl (AG (n:=n) hT (s0.aa [1,1,1,1]) U.ok U.pins hw) ?_)
     rintro v h ⟨e,b,ε,hr,(⟨he,rfl,s⟩ | ⟨rfl,u,rfl,s⟩)⟩
     ·dsimp only [bringA,getA,ai] at s
      refine ze rfl (ze rfl (za rfl (za rfl (zv ?_))))
      refine WP.ret ⟨trivial,_,rfl,?_⟩
      exact ⟨e,b,ε,.read e b ε J I rfl g1 hr,.inl ⟨he,rfl,s.aa [4]⟩⟩
     ·dsimp only [bringA,getA,ai] at s
      refine ze rfl (ze rfl (za rfl (za rfl (zv ?_))))
      refine WP.ret ⟨trivial,_,rfl,?_⟩
      exact ⟨0,b,ε,.read 0 b ε J I rfl g1 hr,.inr ⟨rfl,u,rfl,s.aa [0,4]⟩⟩
    ·dsimp only [bringA,getA,ai] at s2
     refine zo rfl (fo rfl rfl g2) (zm rfl (ze rfl (ze rfl (za rfl (za rfl (zv (zg rfl (zm rfl (zv (zi rfl (zg rfl (zm rfl ?_))))))))))))
     have hb:=ko _ (fc g1)
     refine ae.call rfl rfl rfl rfl rfl rfl rfl (iQ hT s2 (bN _ _) (by simp only at hb; omega)) ?_
     intro v h s
     refine za rfl (za rfl (zv ?_))
     refine WP.ret ⟨trivial,_,rfl,?_⟩
     have s:=bQ.2 ⟨dv,s.aa [3,3,0,0,0,0,0,0,0]⟩
     dsimp only [bringA,getA,ai] at s
     have s:=dc.2 ⟨nv,s.aa [4,3]⟩
     dsimp only [bringA,getA,ai] at s
     exact ⟨0,b,_,.own b J I rfl g1,.inr ⟨rfl,v,rfl,((s.aa [2,0,0,1,1,1]).del 6)⟩⟩
end
end Go.Proofs.YtconhghphklfjaaGreat.Am
namespace Go.Proofs.YtconhghphklfjaaGreat.Am
open Go
inductive oE (ε:aM)(now:List (Int×List Nat))(bq:Bool)(n:Int)(b:List Nat): Int→List (Int×List Nat)→aM→Prop where
 | may (e:Int) (c:List Nat) (ε':aM) (hr:kM ε now bq n e c ε') (he:e≠0):oE ε now bq n b e now ε'
 | bad (c:List Nat) (ε':aM) (hr:kM ε now bq n 0 c ε') (hg:bu b=false):oE ε now bq n b 4 now ε'
 | done (c:List Nat) (ε':aM) (hr:kM ε now bq n 0 c ε') (hg:bu b=true):oE ε now bq n b 0 (cA n b now) ε'
theorem oE.kL {ε ε':aM}{now eY:List (Int×List Nat)}{bq:Bool}{n e:Int}{b:List Nat}(I:oE ε now bq n b e eY ε')(h:ga ε): ga ε':=by
 cases I with
 | may e c ε' I he=>exact I.kL h
 | bad c ε' I J=>exact I.kL h
 | done c ε' I J=>exact I.kL h
section
variable {told:Nat→Option (List V→H→Option (V×H))} {h:H} {S:List ah} {X:ah} {r k q p bw a g aK:Nat} {op v x wh di:V} {l b data:List Nat} {π:Pl} {m:List Fm} {μ:Lg} {δ:Dk} {now:List (Int×List Nat)} {bq:Bool}
theorem NN (U:W told){n:Int}(s:Sat h (eE g a now bq::cz a p q r op data aK::cB r p q π::bj q p μ::az p δ::S))(J:ga (π,μ,δ))(hw:δ.waiting.length≤268435456)(I:∀e∈now,e.2.length=512):
  Call ⟨Tryz.prog,told⟩ 42 [.iface 27 (.ptr g 0),.int .i64 n] h fun v h'=>∃(e:Int) (b:List Nat) (ε:aM),kM (π,μ,δ) now bq n e b ε∧v=.int .i64 e ∧
   Sat h' (eE g a now bq::cz a p q r op data aK::cB r p q ε.1::bj q p ε.2.1::az p ε.2.2::S):=by
 refine Call.of_wp (U.free _ rfl) Tryz.func42 rfl rfl (zg rfl (za rfl (zv (zg rfl (zm rfl (zm rfl (ae.any rfl rfl rfl (OpR.invoke rfl rfl rfl C2 rfl (AJ (n:=n) U s J hw I)) ?_)))))))
 rintro v h ⟨e,b,ε,hr,(⟨he,rfl,s⟩ | ⟨rfl,u,rfl,s⟩)⟩
 ·refine ae.op rfl rfl rfl (aV rfl) ?_
  refine ze rfl (ze rfl (za rfl (za rfl (zv (zg rfl (zm rfl (za rfl (zv ?_))))))))
  refine WP.ret ⟨trivial,_,rfl,?_⟩
  exact ⟨e,b,ε,hr,rfl,s⟩
 ·skip
  refine zm rfl (ze rfl (ze rfl (za rfl (za rfl (zv (zg rfl (zm rfl (za rfl (zv ?_)))))))))
  refine WP.ret ⟨trivial,_,rfl,?_⟩
  exact ⟨0,b,ε,hr,rfl,s.drop⟩
theorem GH (U:W told){n:Int}(s:Sat h (eE g a now bq::cz a p q r op data aK::cB r p q π::bj q p μ::az p δ::X::S))(hX:bU X (bZ x b))(hb:b.length<9223372036854775808)(kO:ga (π,μ,δ))(hw:δ.waiting.length≤268435456)(J:∀e∈now,e.2.length=512):
  Call ⟨Tryz.prog,told⟩ 14 [.ptr g 0,.int .i64 n,x] h fun v h'=>∃(e:Int) (eY:List (Int×List Nat)) (ε:aM),oE (π,μ,δ) now bq n b e eY ε∧v=.int .i64 e ∧
   Sat h' (eE g a eY bq::cz a p q r op data aK::cB r p q ε.1::bj q p ε.2.1::az p ε.2.2::X::S):=by
 refine Call.of_wp (U.free _ rfl) Tryz.func14 rfl rfl (zg rfl (za rfl (zv (zw (zg rfl (zm rfl (zo rfl (JW rfl (FR Tryz.underlying27 rfl)) (zm rfl (ae.call rfl rfl rfl rfl rfl rfl rfl (NN (n:=n) U s kO hw J) ?_)))))))))
 rintro v h ⟨e,c,ε,hr,rfl,s⟩
 refine za rfl (zv (zg rfl (zm rfl ?_)))
 by_cases he:e=0
 ·skip
  subst he
  refine ae.aE rfl rfl rfl (af rfl rfl aN) (rfl) (zv (zj rfl (WP.skip (zw (zg rfl (zm rfl (ae.call rfl rfl rfl rfl rfl rfl rfl (CQ U (s.aa [5]) hX hb) ?_)))))))
  rintro v h ⟨rfl,s⟩
  dsimp only [bringA,getA,ai] at s
  refine zo rfl (dA rfl rfl) (zv ?_)
  by_cases I:bu b=true
  ·skip
   refine WP.JX rfl (by rw [I]; rfl) ?_
   have RT:=fJ I
   obtain ⟨nv,s⟩:=dc.1 (s.aa [1])
   dsimp only [bringA,getA,ai] at s
   have s:=s.aa [2,0,0]
   dsimp only [bringA,getA,ai] at s
   obtain ⟨pG,rfl⟩:=Af s (j:=2) rfl
   refine WP.skip (zw ?_)
   have s0:=s
   refine WP.drawn [some (0,2),some (0,2),some (0,2),some (0,2),some (0,2),none,none,none] rfl (by kernel_rfl) (by kernel_rfl) ?_
   refine zM rfl (zN rfl (zF rfl (nQ _ _) (zL rfl (by exact s.ld (k:=1) rfl iD rfl) ?_)))
   refine zM rfl (zM rfl (au.any rfl rfl rfl rfl (OpR.call rfl rfl rfl rfl (iQ U s hX (by omega))) ?_))
   intro u h s
   obtain ⟨qM,_,cap,_,rfl,_⟩:=s.gJ (by omega)
   have s:=s.eF
   have s1:=s
   refine au.fI rfl rfl rfl (OpR.mapUpdate rfl rfl rfl rfl (kj (f:=fun v b=>ah.bp v b) (x:=b) (fun _ _=>aq.bp _ _) (s.aa [0,2]) Tryz.underlying86 Tryz.underlying3)) ?_
   intro w h s
   dsimp only [ai,bringA] at s
   refine au.nil ⟨⟨fun _ _=>.inr ⟨rfl,⟨_,aV rfl⟩,aU _ rfl⟩,fun _ _=>.inr ⟨rfl,⟨_,kX rfl⟩,aU _ rfl⟩,fun _ _=>.inr ⟨rfl,⟨_,iO rfl (nQ _ _)⟩,aU _ rfl⟩,cR (.inr ⟨rfl,⟨_,aI rfl (by exact s0.ld (k:=1) rfl iD rfl)⟩,aU _ rfl⟩) (.inr ⟨rfl,⟨_,aI rfl (by exact s1.ld (k:=2) rfl iD rfl)⟩,aU _ rfl⟩),fun _ _=>.inr ⟨rfl,⟨_,aV rfl⟩,aU _ rfl⟩,trivial,trivial,trivial,trivial⟩,?_⟩
   refine zg rfl (za rfl (zv ?_))
   refine WP.ret ⟨trivial,_,rfl,?_⟩
   exact ⟨0,_,ε,.done c ε hr I,rfl,dc.2 ⟨.map pG,s.aa [2,0,1,1,1,1,0]⟩⟩
  ·have I:bu b=false:=by simpa using I
   refine WP.DN rfl (by rw [I]; rfl) ?_
   refine zg rfl (za rfl (zv ?_))
   refine WP.ret ⟨trivial,_,rfl,?_⟩
   exact ⟨4,_,ε,.bad c ε hr I,rfl,s.aa [1,1,1,1,1,0]⟩
 ·skip
  refine ae.aR rfl rfl rfl (af rfl rfl aN) (by simp; exact he) ?_
  refine zv (zi rfl (zg rfl (zm rfl (za rfl (zv ?_)))))
  refine WP.ret ⟨trivial,_,rfl,?_⟩
  exact ⟨e,_,ε,.may e c ε hr he,rfl,s⟩
theorem xZ (I:W told)(s:Sat h (eE g a now bq::cz a p q r (.ptr g 0) data aK::S)): Call ⟨Tryz.prog,told⟩ 49 [.ptr g 0] h fun v h'=>v=.aW []∧Sat h' (eE g a now true::cz a p q r .bI data aK::S):=by
 obtain ⟨nv,s⟩:=dc.1 s
 obtain ⟨dv,s⟩:=bQ.1 (s.aa [2])
 dsimp only [bringA,getA,ai] at s
 refine Call.of_wp (I.free _ rfl) Tryz.func49 rfl rfl (zg rfl (zm rfl (zn rfl (zf rfl (z8 _ _) ?_))))
 refine ae.bn rfl rfl rfl rfl rfl (by exact s.cZ (k:=2) rfl qK rfl (by decide) rfl rfl) (fun h s => ?_)
 dsimp only [j6,Nat.reduceAdd,List.set,setA] at s
 refine zv (zg rfl (zm rfl (zn rfl (zf rfl (nP _ _) (zl rfl (by exact s.ld (k:=2) rfl um rfl) ?_)))))
 refine zn rfl (zf rfl (rM _ _) (zl rfl (by exact s.ld (k:=0) rfl Ih rfl) ?_))
 refine zm rfl (ae.aR rfl rfl rfl (af rfl rfl (Pm Tryz.underlying27 RF (by decide) (s.row (k:=2) rfl) (s.row (k:=2) rfl) (by decide) (by decide))) (Nat.beq_refl g) ?_)
 refine zv (zi rfl (zr rfl (zm rfl (zn rfl (zf rfl (nP _ _) (zl rfl (by exact s.ld (k:=2) rfl um rfl) ?_))))))
 refine zn rfl (zf rfl (rM _ _) ?_)
 refine ae.bn rfl rfl rfl rfl rfl (by exact s.cZ (k:=0) rfl Nj rfl (by decide) rfl rfl) (fun h s => ?_)
 dsimp only [Nat.reduceAdd,List.set,setA] at s
 refine zv ?_
 have s:=dc.2 ⟨nv,(bQ.2 ⟨dv,s⟩).aa [1,1]⟩
 exact ⟨trivial,_,rfl,rfl,s⟩
theorem AK (I:W told)(s:Sat h (eE g a now bq::cz a p q r (.ptr g 0) data aK::S)): Call ⟨Tryz.prog,told⟩ 27 [.ptr g 0] h fun v h'=>v=.aW []∧Sat h' (eE g a now true::cz a p q r .bI data aK::S):=by
 refine Call.of_wp (I.free _ rfl) Tryz.func27 rfl rfl (zr rfl (zm rfl (ae.call rfl rfl rfl rfl rfl rfl rfl (xZ I s) ?_)))
 rintro v h ⟨rfl,s⟩
 refine zv ?_
 exact ⟨trivial,_,rfl,rfl,s⟩
end
end Go.Proofs.YtconhghphklfjaaGreat.Am
