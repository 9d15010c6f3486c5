/- The program's functions compute the plain ones. Conditions: none. Printed by a program (wip/tools/xg.py). -/
import Derived.Test.YtmebbbblomlgdaaGreatTok
import Derived.Test.YtmebbbblomlgdaaGreatSrt
import Derived.Test.YtmebbbblomlgdaaGreatM
import Derived.Test.YtmebbbblomlgdaaGreatSp
import Derived.Test.YtmebbbblomlgdaaGreatAu
set_option linter.unusedVariables false
set_option linter.unusedSimpArgs false
set_option maxRecDepth 4000
namespace Go.Proofs.YtmebbbblomlgdaaGreat
open Go Go.Am Go.Proofs Go.Mx
noncomputable def CC : Cfg:=cfg (Ct Tryz.prog)
theorem zl : CC.OK:=cfg_ok fun f args v h=>h
abbrev zk (x:zX):V:=.agg [(V.i x.ID),(V.i x.Begin),(V.i x.Every),(V.sl (List.map V.i x.Heights))]
abbrev ZN (x:jP):V:=.agg [(V.i x.From),(V.i x.To),(V.i x.Add)]
abbrev zY (x:zO):V:=.agg [(V.i x.Level),(V.sl (List.map zk x.Cycles)),(V.sl (List.map ZN x.Shifts))]
abbrev zQ (x:zT):V:=.agg [(V.i x.ID),(V.i x.Depth)]
abbrev zI (x:zC):V:=.agg [(V.i x.Lo),(V.i x.Hi)]
abbrev zD (x:zG):V:=.agg [(V.i x.Water.Level),(V.sl (List.map zk x.Water.Cycles)),(V.sl (List.map ZN x.Water.Shifts)),(V.sl (List.map zQ x.Berths)),(V.sl (List.map zI x.Tides)),(V.i x.Keel)]
abbrev zH (x:zJ):V:=.agg [(V.i x.ID),(V.i x.Draught),(V.i x.From),(V.i x.To),(V.i x.Long)]
abbrev zA (x:zB):V:=.agg [(V.i x.Tide),(V.i x.Berth)]
abbrev Zq (x:zZ):V:=.agg [(V.sl (List.map V.i x.Calls)),(V.sl (List.map zA x.Slots))]
set_option maxHeartbeats 4000000 in
theorem zAJ {h:zG} {r:Bool} (hM:zBF h=some r):Ct Tryz.prog 4 [(zD h)] (V.b r):=by
 refine zP zl rfl ?_
 unfold zBF at hM
 refine au 8 ?_
 refine X.join (τ:=Unit) (fun v=>zAM h=some r) (fun v=>⟨[(1,(V.ptr 0 0 0))],[.rows 6 [(zD h)]],0,none,67⟩) ?_ ?_
 ·intro _ hM
  replace hM:zAM h=some r:=hM
  unfold zAM at hM
  refine X.sq ?_
  refine X.mid [(2,(V.b ((((decide ((h.Water.Cycles.length:Int)≤8))&&(decide ((h.Water.Shifts.length:Int)≤25)))&&(decide ((h.Berths.length:Int)≤10)))&&((decide ((h.Tides.length:Int)≤3))||((decide (12<(h.Tides.length:Int)))&&(decide ((h.Tides.length:Int)≤20)))))))] ?_ ?_
  ·intro hg
   refine X.split (decide ((h.Water.Cycles.length:Int)≤8)) (fun h_1=>?_) (fun h_1=>?_)
   ·refine X.split (decide ((h.Water.Shifts.length:Int)≤25)) (fun h_2=>?_) (fun h_2=>?_)
    ·refine X.split (decide ((h.Berths.length:Int)≤10)) (fun h_3=>?_) (fun h_3=>?_)
     ·refine X.split (decide ((h.Tides.length:Int)≤3)) (fun h_4=>?_) (fun h_4=>?_)
      ·refine au 38 ?_
       exact X.ng hg rfl (by simp only [h_1,h_2,h_3,h_4,X.bb])
      refine X.split (decide (12<(h.Tides.length:Int))) (fun h_5=>?_) (fun h_5=>?_)
      ·refine au 38 ?_
       exact X.ng hg rfl (by simp only [h_1,h_2,h_3,h_4,h_5,X.bb])
      refine au 38 ?_
      exact X.ng hg rfl (by simp only [h_1,h_2,h_3,h_4,h_5,X.bb])
     refine au 38 ?_
     exact X.ng hg rfl (by simp only [h_1,h_2,h_3,X.bb])
    refine au 38 ?_
    exact X.ng hg rfl (by simp only [h_1,h_2,X.bb])
   refine au 38 ?_
   exact X.ng hg rfl (by simp only [h_1,X.bb])
  cases hM
  exact X.rt
 intro hj_1
 refine au 1 ?_
 refine X.gx [some 0] (X.loop (σ:=Int) (fun v=>⟨[(1,(V.ptr 0 0 0)),(3,(V.i v))],[.rows 6 [(zD h)]],0,none,67⟩) hM ?_ rfl)
 intro i b_1 hM hc_2 hr_1
 rw [zAN] at hM
 refine au 8 ?_
 refine X.cm hM (fun h_6 hM=>?_) (fun h_6 hM=>?_)
 ·obtain ⟨x,h_7,hM⟩:=zF hM
  obtain ⟨x1,h_8,hM⟩:=zF hM
  refine au 8 ?_
  refine X.cop rfl (X.Zh (f:=zI) h_7 (fun _=>rfl) rfl rfl rfl rfl) rfl rfl ?_
  refine au 1 ?_
  refine X.cop rfl (X.JA h_7 rfl rfl rfl) rfl rfl ?_
  refine au 3 ?_
  refine X.cop rfl (X.Zh (f:=zI) h_8 (fun _=>rfl) rfl rfl rfl rfl) rfl rfl ?_
  refine au 1 ?_
  refine X.cop rfl (X.JA h_8 rfl rfl rfl) rfl rfl ?_
  refine au 3 ?_
  refine X.norm [(1,(V.ptr 0 0 0)),(3,(V.i i)),(4,(V.i (w64 (x.Hi - x1.Lo))))] ?_ rfl (sr rfl)
  refine X.sq ?_
  refine X.mid [(30,(V.b ((decide (240≤(w64 (x.Hi - x1.Lo))))&&(decide ((w64 (x.Hi - x1.Lo))<1440))))),(1,(V.ptr 0 0 0)),(3,(V.i i))] ?_ ?_
  ·intro hg
   refine X.split (decide (240≤(w64 (x.Hi - x1.Lo)))) (fun h_9=>?_) (fun h_9=>?_)
   ·refine au 7 ?_
    exact X.ng hg rfl (by simp only [h_9,X.bb])
   refine au 7 ?_
   exact X.ng hg rfl (by simp only [h_9,X.bb])
  refine X.cm hM (fun h_10 hM=>?_) (fun h_10 hM=>?_)
  ·refine au 3 ?_
   have hE:=Option.some.inj hM
   replace hE:=hr_1 _ hE.symm
   subst hE
   exact X.rt
  refine au 7 ?_
  have hE:=Option.some.inj hM
  exact X.gx [some 0] (hc_2 (w64 (i+1)) hE.symm)
 obtain ⟨y_1,hM,hy⟩:=zz hM
 rw [hr_1 _ hy.symm] at hM
 refine au 1 ?_
 exact X.gx [some 0] (hj_1 () hM)
theorem zC6 (l:(List zJ)) (most:Int):Ct Tryz.prog 5 [(V.sl (List.map zH l)),(V.i most)] (V.b (zBn l most)):=by
 refine zP zl rfl ?_
 generalize hM:zBn l most=r
 unfold zBn at hM
 refine au 4 ?_
 refine X.mid [(4,(V.b ((decide ((l.length:Int)≤most))||((decide (10<(l.length:Int)))&&(decide ((l.length:Int)≤20))))))] ?_ ?_
 ·intro hg
  refine X.split (decide ((l.length:Int)≤most)) (fun h_1=>?_) (fun h_1=>?_)
  ·refine au 16 ?_
   exact X.ng hg rfl (by simp only [h_1,X.bb])
  refine X.split (decide (10<(l.length:Int))) (fun h_2=>?_) (fun h_2=>?_)
  ·refine au 16 ?_
   exact X.ng hg rfl (by simp only [h_1,h_2,X.bb])
  refine au 16 ?_
  exact X.ng hg rfl (by simp only [h_1,h_2,X.bb])
 subst hM
 exact X.rt
theorem zGE : Ct Tryz.prog 14 [] (zD (ZP)):=by
 refine zP zl rfl ?_
 generalize hM:ZP=r
 unfold ZP at hM
 refine au 8 ?_
 refine X.opW (H':=[.rows 6 [(V.agg [(V.i 0),V.nil,V.nil,V.nil,V.nil,(V.i 0)])],.rows 1 (List.map V.i ([0,100,200,100])),.rows 4 [(V.agg [(V.i 1),(V.i 0),(V.i 60),(V.osl 1 0 (List.length ([0,100,200,100])))])],.rows 3 [(V.agg [(V.i 0),V.nil,V.nil])]]) rfl rfl rfl rfl ?_
 refine X.op0W (H':=[.rows 6 [(V.agg [(V.i 0),V.nil,V.nil,V.nil,V.nil,(V.i 0)])],.rows 1 (List.map V.i ([0,100,200,100])),.rows 4 [(V.agg [(V.i 1),(V.i 0),(V.i 60),(V.osl 1 0 (List.length ([0,100,200,100])))])],.rows 3 [(V.agg [(V.i 500),(V.osl 2 0 1),V.nil])]]) rfl rfl rfl ?_
 refine au 5 ?_
 refine X.opW (H':=[.rows 6 [(V.agg [(V.i 0),V.nil,V.nil,V.nil,V.nil,(V.i 0)])],.rows 1 (List.map V.i ([0,100,200,100])),.rows 4 [(V.agg [(V.i 1),(V.i 0),(V.i 60),(V.osl 1 0 (List.length ([0,100,200,100])))])],.rows 3 [(V.agg [(V.i 500),(V.osl 2 0 1),V.nil])],.rows 2 (List.map zQ ([(⟨1,300⟩:zT),(⟨2,100⟩:zT)]))]) rfl rfl rfl rfl ?_
 refine au 2 ?_
 refine X.opW (H':=[.rows 6 [(V.agg [(V.i 0),V.nil,V.nil,V.nil,V.nil,(V.i 0)])],.rows 1 (List.map V.i ([0,100,200,100])),.rows 4 [(V.agg [(V.i 1),(V.i 0),(V.i 60),(V.osl 1 0 (List.length ([0,100,200,100])))])],.rows 3 [(V.agg [(V.i 500),(V.osl 2 0 1),V.nil])],.rows 2 (List.map zQ ([(⟨1,300⟩:zT),(⟨2,100⟩:zT)])),.rows 2 (List.map zI ([(⟨0,239⟩:zC),(⟨240,479⟩:zC)]))]) rfl rfl rfl rfl ?_
 refine X.q rfl ?_
 refine X.op0W (H':=[.rows 6 [(V.agg [(V.i 500),(V.osl 2 0 1),V.nil,(V.osl 4 0 (List.length ([(⟨1,300⟩:zT),(⟨2,100⟩:zT)]))),(V.osl 5 0 (List.length ([(⟨0,239⟩:zC),(⟨240,479⟩:zC)]))),(V.i 50)])],.rows 1 (List.map V.i ([0,100,200,100])),.rows 4 [(V.agg [(V.i 1),(V.i 0),(V.i 60),(V.osl 1 0 (List.length ([0,100,200,100])))])],.rows 3 [(V.agg [(V.i 500),(V.osl 2 0 1),V.nil])],.rows 2 (List.map zQ ([(⟨1,300⟩:zT),(⟨2,100⟩:zT)])),.rows 2 (List.map zI ([(⟨0,239⟩:zC),(⟨240,479⟩:zC)]))]) rfl rfl rfl ?_
 refine GS.zV ?_
 subst hM
 exact X.rt
theorem ZX (n:Int) (lo:Int) (hi:Int):Ct Tryz.prog 97 [(V.i n),(V.i lo),(V.i hi)] (V.b (zb n lo hi)):=by
 refine zP zl rfl ?_
 generalize hM:zb n lo hi=r
 unfold zb at hM
 refine au 4 ?_
 refine X.mid [(6,(V.b ((decide (lo≤n))&&(decide (n≤hi)))))] ?_ ?_
 ·intro hg
  refine X.split (decide (lo≤n)) (fun h_1=>?_) (fun h_1=>?_)
  ·refine au 10 ?_
   exact X.ng hg rfl (by simp only [h_1,X.bb])
  refine au 10 ?_
  exact X.ng hg rfl (by simp only [h_1,X.bb])
 subst hM
 exact X.rt
theorem zCV (n:Int):Ct Tryz.prog 93 [(V.i n)] (V.b (Zn n)):=by
 refine zP zl rfl ?_
 generalize hM:Zn n=r
 unfold Zn at hM
 refine au 5 ?_
 refine X.ca (ZX n (-4000) 4000) ?_
 refine au 2 ?_
 subst hM
 exact X.rt
theorem QI (tick:Int):Ct Tryz.prog 70 [(V.i tick)] (V.b (jg tick)):=by
 refine zP zl rfl ?_
 generalize hM:jg tick=r
 unfold jg at hM
 refine au 5 ?_
 refine X.ca (ZX tick 0 1048576) ?_
 refine au 2 ?_
 subst hM
 exact X.rt
theorem zGw (h:Int):Ct Tryz.prog 114 [(V.i h)] (V.b (jb h)):=by
 refine zP zl rfl ?_
 generalize hM:jb h=r
 unfold jb at hM
 refine au 5 ?_
 refine X.ca (zCV h) ?_
 refine au 3 ?_
 subst hM
 exact X.rt
theorem Qb {s:(List Int)} {r:Int} (hM:Zc s=some r):Ct Tryz.prog 122 [(V.sl (List.map V.i s)),(V.fn 114 [])] (V.i r):=by
 refine zP zl rfl ?_
 unfold Zc at hM
 refine au 9 ?_
 refine X.join (τ:=Unit) (fun v=>Zo=some r) (fun v=>⟨[],[],0,none,19⟩) ?_ ?_
 ·intro _ hM
  replace hM:Zo=some r:=hM
  unfold Zo at hM
  refine au 3 ?_
  cases hM
  exact X.rt
 intro hj_1
 refine au 1 ?_
 refine X.gx [] (X.loop (σ:=Int) (fun v=>⟨[(0,(V.sl (List.map V.i s))),(1,(V.fn 114 [])),(7,(V.i (s.length:Int))),(8,(V.i v))],[],0,none,19⟩) hM ?_ rfl)
 intro x1 b_1 hM hc_2 hr_1
 rw [jG] at hM
 refine au 3 ?_
 refine GS.seq ?_
 refine X.cm hM (fun h_1 hM=>?_) (fun h_1 hM=>?_)
 ·obtain ⟨x,h_2,hM⟩:=zF hM
  refine au 13 ?_
  refine X.ca (zGw x) ?_
  refine GS.zV ?_
  refine X.cm hM (fun h_3 hM=>?_) (fun h_3 hM=>?_)
  ·refine au 4 ?_
   have hE:=Option.some.inj hM
   replace hE:=hr_1 _ hE.symm
   subst hE
   exact X.rt
  refine au 6 ?_
  have hE:=Option.some.inj hM
  exact X.gx [] (hc_2 (w64 (x1+1)) hE.symm)
 obtain ⟨y_1,hM,hy⟩:=zz hM
 rw [hr_1 _ hy.symm] at hM
 refine au 1 ?_
 exact X.gx [] (hj_1 () hM)
theorem Yw {s:(List Int)} {r:Bool} (hM:ZC s=some r):Ct Tryz.prog 113 [(V.sl (List.map V.i s)),(V.fn 114 [])] (V.b r):=by
 refine zP zl rfl ?_
 unfold ZC at hM
 obtain ⟨y,h_1,hM⟩:=zF hM
 refine au 6 ?_
 refine X.ca (Qb h_1) ?_
 refine au 3 ?_
 cases hM
 exact X.rt
theorem zIr {c:zX} {r:Bool} (hM:qL c=some r):Ct Tryz.prog 94 [(zk c)] (V.b r):=by
 refine zP zl rfl ?_
 unfold qL at hM
 obtain ⟨y,h_1,hM⟩:=Q5 hM
 refine au 5 ?_
 refine X.mid [(2,(V.b (((((zb c.ID 1 1099511627776)&&(jg c.Begin))&&(zb c.Every 1 120))&&(zb (c.Heights.length:Int) 1 60))&&(!y))))] ?_ ?_
 ·intro hg
  refine X.split ((zb c.ID 1 1099511627776)) (fun h_2=>?_) (fun h_2=>?_)
  ·refine X.split ((jg c.Begin)) (fun h_3=>?_) (fun h_3=>?_)
   ·refine X.split ((zb c.Every 1 120)) (fun h_4=>?_) (fun h_4=>?_)
    ·refine X.split ((zb (c.Heights.length:Int) 1 60)) (fun h_5=>?_) (fun h_5=>?_)
     ·refine au 2 ?_
      refine X.ca (ZX c.ID 1 1099511627776) ?_
      refine au 3 ?_
      refine X.ca (QI c.Begin) ?_
      refine au 4 ?_
      refine X.ca (ZX c.Every 1 120) ?_
      refine au 5 ?_
      refine X.ca (ZX (c.Heights.length:Int) 1 60) ?_
      refine au 4 ?_
      refine X.ca (Yw (h_1 (X.zK (X.zK (X.zK h_2 h_3) h_4) h_5))) ?_
      refine au 4 ?_
      exact X.ng hg rfl (by simp only [h_2,h_3,h_4,h_5,X.bb])
     refine au 2 ?_
     refine X.ca (ZX c.ID 1 1099511627776) ?_
     refine au 3 ?_
     refine X.ca (QI c.Begin) ?_
     refine au 4 ?_
     refine X.ca (ZX c.Every 1 120) ?_
     refine au 5 ?_
     refine X.ca (ZX (c.Heights.length:Int) 1 60) ?_
     refine au 9 ?_
     exact X.ng hg rfl (by simp only [h_2,h_3,h_4,h_5,X.bb])
    refine au 2 ?_
    refine X.ca (ZX c.ID 1 1099511627776) ?_
    refine au 3 ?_
    refine X.ca (QI c.Begin) ?_
    refine au 4 ?_
    refine X.ca (ZX c.Every 1 120) ?_
    refine au 15 ?_
    exact X.ng hg rfl (by simp only [h_2,h_3,h_4,X.bb])
   refine au 2 ?_
   refine X.ca (ZX c.ID 1 1099511627776) ?_
   refine au 3 ?_
   refine X.ca (QI c.Begin) ?_
   refine au 20 ?_
   exact X.ng hg rfl (by simp only [h_2,h_3,X.bb])
  refine au 2 ?_
  refine X.ca (ZX c.ID 1 1099511627776) ?_
  refine au 24 ?_
  exact X.ng hg rfl (by simp only [h_2,X.bb])
 cases hM
 exact X.rt
theorem zG0 (x:zX) (c:zX):Ct Tryz.prog 96 [(zk x),(V.fptr [(zk c)] 0 0)] (V.b (YL x c)):=by
 refine zP zl rfl ?_
 generalize hM:YL x c=r
 unfold YL at hM
 refine au 12 ?_
 subst hM
 exact X.rt
theorem YI {s:(List zX)} {c:zX} {r:Int} (hM:zq s c=some r):Ct Tryz.prog 115 [(V.sl (List.map zk s)),(V.fn 96 [(V.fptr [(zk c)] 0 0)])] (V.i r):=by
 refine zP zl rfl ?_
 unfold zq at hM
 refine au 9 ?_
 refine X.join (τ:=Unit) (fun v=>ZW=some r) (fun v=>⟨[],[],0,none,19⟩) ?_ ?_
 ·intro _ hM
  replace hM:ZW=some r:=hM
  unfold ZW at hM
  refine au 3 ?_
  cases hM
  exact X.rt
 intro hj_1
 refine au 1 ?_
 refine X.gx [] (X.loop (σ:=Int) (fun v=>⟨[(0,(V.sl (List.map zk s))),(1,(V.fn 96 [(V.fptr [(zk c)] 0 0)])),(7,(V.i (s.length:Int))),(8,(V.i v))],[],0,none,19⟩) hM ?_ rfl)
 intro x1 b_1 hM hc_2 hr_1
 rw [ZJ] at hM
 refine au 3 ?_
 refine GS.seq ?_
 refine X.cm hM (fun h_1 hM=>?_) (fun h_1 hM=>?_)
 ·obtain ⟨x,h_2,hM⟩:=zF hM
  refine au 13 ?_
  refine X.ca (zG0 x c) ?_
  refine GS.zV ?_
  refine X.cm hM (fun h_3 hM=>?_) (fun h_3 hM=>?_)
  ·refine au 4 ?_
   have hE:=Option.some.inj hM
   replace hE:=hr_1 _ hE.symm
   subst hE
   exact X.rt
  refine au 6 ?_
  have hE:=Option.some.inj hM
  exact X.gx [] (hc_2 (w64 (x1+1)) hE.symm)
 obtain ⟨y_1,hM,hy⟩:=zz hM
 rw [hr_1 _ hy.symm] at hM
 refine au 1 ?_
 exact X.gx [] (hj_1 () hM)
theorem yJ {s:(List zX)} {c:zX} {r:Bool} (hM:zy s c=some r):Ct Tryz.prog 95 [(V.sl (List.map zk s)),(V.fn 96 [(V.fptr [(zk c)] 0 0)])] (V.b r):=by
 refine zP zl rfl ?_
 unfold zy at hM
 obtain ⟨y,h_1,hM⟩:=zF hM
 refine au 6 ?_
 refine X.ca (YI h_1) ?_
 refine au 3 ?_
 cases hM
 exact X.rt
set_option maxHeartbeats 4000000 in
theorem zCW {w:zO} {r:Int} (hM:YM w=some r):Ct Tryz.prog 67 [(zY w)] (V.i r):=by
 refine zP zl rfl ?_
 unfold YM at hM
 refine au 9 ?_
 refine X.ca (zCV w.Level) ?_
 refine au 3 ?_
 refine X.cm hM (fun h_1 hM=>?_) (fun h_1 hM=>?_)
 ·refine au 3 ?_
  cases hM
  exact X.rt
 refine X.sq ?_
 refine X.mid [(13,(V.b ((decide (6<(w.Cycles.length:Int)))||(decide (20<(w.Shifts.length:Int)))))),(1,(V.ptr 0 0 0))] ?_ ?_
 ·intro hg
  refine X.split (decide (6<(w.Cycles.length:Int))) (fun h_2=>?_) (fun h_2=>?_)
  ·refine au 12 ?_
   exact X.ng hg rfl (by simp only [h_2,X.bb])
  refine au 12 ?_
  exact X.ng hg rfl (by simp only [h_2,X.bb])
 refine X.cm hM (fun h_3 hM=>?_) (fun h_3 hM=>?_)
 ·refine au 3 ?_
  cases hM
  exact X.rt
 refine au 9 ?_
 refine X.join (τ:=Unit) (fun v=>Jm w=some r) (fun v=>⟨[(1,(V.ptr 0 0 0))],[.rows 3 [(zY w)]],0,none,71⟩) ?_ ?_
 ·intro _ hM
  replace hM:Jm w=some r:=hM
  unfold Jm at hM
  refine au 10 ?_
  refine X.join (τ:=Unit) (fun v=>zAm=some r) (fun v=>⟨[],[],0,none,71⟩) ?_ ?_
  ·intro _ hM
   replace hM:zAm=some r:=hM
   unfold zAm at hM
   refine au 3 ?_
   cases hM
   exact X.rt
  intro hj_2
  refine au 1 ?_
  refine X.gx [] (X.loop (σ:=(Int×Int)) (fun v=>⟨[(5,(V.i v.1)),(43,(V.sl (List.map ZN w.Shifts))),(44,(V.i (w.Shifts.length:Int))),(45,(V.i v.2))],[],0,none,71⟩) hM ?_ rfl)
  rintro ⟨last,x1⟩ b_1 hM hc_3 hr_1
  rw [Qw] at hM
  refine au 3 ?_
  refine GS.seq ?_
  refine X.cm hM (fun h_4 hM=>?_) (fun h_4 hM=>?_)
  ·obtain ⟨x,h_5,hM⟩:=zF hM
   refine au 7 ?_
   refine X.op0W rfl rfl rfl ?_
   refine au 3 ?_
   refine X.mid [(67,(V.b (((!(zb x.From (w64 (last+1)) x.To))||(decide (728<x.To)))||(!(Zn x.Add))))),(7,(V.ptr 0 0 0)),(43,(V.sl (List.map ZN w.Shifts))),(44,(V.i (w.Shifts.length:Int))),(45,(V.i x1))] ?_ ?_
   ·intro hg
    refine X.split (!(zb x.From (w64 (last+1)) x.To)) (fun h_6=>?_) (fun h_6=>?_)
    ·refine au 6 ?_
     refine X.ca (ZX x.From (w64 (last+1)) x.To) ?_
     refine au 13 ?_
     exact X.ng hg rfl (by simp only [h_6,X.bb])
    refine X.split (decide (728<x.To)) (fun h_7=>?_) (fun h_7=>?_)
    ·refine au 6 ?_
     refine X.ca (ZX x.From (w64 (last+1)) x.To) ?_
     refine au 13 ?_
     exact X.ng hg rfl (by simp only [h_6,h_7,X.bb])
    refine au 6 ?_
    refine X.ca (ZX x.From (w64 (last+1)) x.To) ?_
    refine au 9 ?_
    refine X.ca (zCV x.Add) ?_
    refine au 3 ?_
    exact X.ng hg rfl (by simp only [h_6,h_7,X.bb])
   refine X.cm hM (fun h_8 hM=>?_) (fun h_8 hM=>?_)
   ·refine au 3 ?_
    have hE:=Option.some.inj hM
    replace hE:=hr_1 _ hE.symm
    subst hE
    exact X.rt
   refine au 11 ?_
   have hE:=Option.some.inj hM
   exact X.gx [] (hc_3 (x.To,w64 (x1+1)) hE.symm)
  obtain ⟨y_1,hM,hy⟩:=zz hM
  rw [hr_1 _ hy.symm] at hM
  refine au 1 ?_
  exact X.gx [] (hj_2 () hM)
 intro hj_1
 refine au 1 ?_
 refine X.gx [some 0] (X.loop (σ:=Int) (fun v=>⟨[(1,(V.ptr 0 0 0)),(25,(V.sl (List.map zk w.Cycles))),(26,(V.i (w.Cycles.length:Int))),(27,(V.i v))],[.rows 3 [(zY w)]],0,none,71⟩) hM ?_ rfl)
 intro x3 b_1 hM hc_4 hr_1
 rw [Qv] at hM
 refine au 3 ?_
 refine GS.seq ?_
 refine X.cm hM (fun h_9 hM=>?_) (fun h_9 hM=>?_)
 ·obtain ⟨x2,h_10,hM⟩:=zF hM
  refine au 9 ?_
  refine X.op0W rfl rfl rfl ?_
  obtain ⟨y,h_11,hM⟩:=zF hM
  refine au 4 ?_
  refine X.ca (zIr h_11) ?_
  refine au 2 ?_
  refine X.cm hM (fun h_12 hM=>?_) (fun h_12 hM=>?_)
  ·refine au 3 ?_
   have hE:=Option.some.inj hM
   replace hE:=hr_1 _ hE.symm
   subst hE
   exact X.rt
  obtain ⟨l,h_13,hM⟩:=zF hM
  obtain ⟨y1,h_14,hM⟩:=zF hM
  refine au 5 ?_
  refine X.opR rfl (X.zLg (f:=zk) h_13 (fun _=>rfl) rfl rfl rfl rfl rfl rfl (X.zE9 rfl)) rfl (X.q rfl ?_)
  refine X.zCG (yJ h_14) rfl rfl rfl (m:=9) rfl (.cons (.shut (n:=9) rfl) (.cons (FR.arg ⟨30,rfl⟩) .nil)) ?_
  refine GS.zV ?_
  refine X.cm hM (fun h_15 hM=>?_) (fun h_15 hM=>?_)
  ·refine au 3 ?_
   have hE:=Option.some.inj hM
   replace hE:=hr_1 _ hE.symm
   subst hE
   exact X.rt
  refine au 6 ?_
  have hE:=Option.some.inj hM
  exact X.gx [some 0] (hc_4 (w64 (x3+1)) hE.symm)
 obtain ⟨y_1,hM,hy⟩:=zz hM
 rw [hr_1 _ hy.symm] at hM
 refine au 1 ?_
 exact X.gx [some 0] (hj_1 () hM)
theorem ZF (n:Int) (lo:Int) (hi:Int):Ct Tryz.prog 43 [(V.i n),(V.i lo),(V.i hi)] (V.b (zu n lo hi)):=by
 refine zP zl rfl ?_
 generalize hM:zu n lo hi=r
 unfold zu at hM
 refine au 4 ?_
 refine X.mid [(6,(V.b ((decide (lo≤n))&&(decide (n≤hi)))))] ?_ ?_
 ·intro hg
  refine X.split (decide (lo≤n)) (fun h_1=>?_) (fun h_1=>?_)
  ·refine au 10 ?_
   exact X.ng hg rfl (by simp only [h_1,X.bb])
  refine au 10 ?_
  exact X.ng hg rfl (by simp only [h_1,X.bb])
 subst hM
 exact X.rt
theorem zGF (b:zT):Ct Tryz.prog 41 [(zQ b)] (V.i (qB b)):=by
 refine zP zl rfl ?_
 generalize hM:qB b=r
 unfold qB at hM
 refine au 9 ?_
 subst hM
 exact X.rt
theorem Ye (x:zT) (c:Int):Ct Tryz.prog 69 [(zQ x),(V.fptr [(V.fn 41 [])] 0 0),(V.fptr [(V.i c)] 0 0)] (V.b (Zk x c)):=by
 refine zP zl rfl ?_
 generalize hM:Zk x c=r
 unfold Zk at hM
 refine au 8 ?_
 refine X.cca (zGF x) ?_
 refine au 4 ?_
 refine X.norm [(4,(V.b (decide ((qB x)=c))))] ?_ rfl (sr rfl)
 subst hM
 exact X.rt
theorem jN {s:(List zT)} {c:Int} {r:Int} (hM:zi s c=some r):Ct Tryz.prog 68 [(V.sl (List.map zQ s)),(V.fn 69 [(V.fptr [(V.fn 41 [])] 0 0),(V.fptr [(V.i c)] 0 0)])] (V.i r):=by
 refine zP zl rfl ?_
 unfold zi at hM
 refine au 9 ?_
 refine X.join (τ:=Unit) (fun v=>zg=some r) (fun v=>⟨[],[],0,none,19⟩) ?_ ?_
 ·intro _ hM
  replace hM:zg=some r:=hM
  unfold zg at hM
  refine au 3 ?_
  cases hM
  exact X.rt
 intro hj_1
 refine au 1 ?_
 refine X.gx [] (X.loop (σ:=Int) (fun v=>⟨[(0,(V.sl (List.map zQ s))),(1,(V.fn 69 [(V.fptr [(V.fn 41 [])] 0 0),(V.fptr [(V.i c)] 0 0)])),(7,(V.i (s.length:Int))),(8,(V.i v))],[],0,none,19⟩) hM ?_ rfl)
 intro x1 b_1 hM hc_2 hr_1
 rw [zW] at hM
 refine au 3 ?_
 refine GS.seq ?_
 refine X.cm hM (fun h_1 hM=>?_) (fun h_1 hM=>?_)
 ·obtain ⟨x,h_2,hM⟩:=zF hM
  refine au 13 ?_
  refine X.ca (Ye x c) ?_
  refine GS.zV ?_
  refine X.cm hM (fun h_3 hM=>?_) (fun h_3 hM=>?_)
  ·refine au 4 ?_
   have hE:=Option.some.inj hM
   replace hE:=hr_1 _ hE.symm
   subst hE
   exact X.rt
  refine au 6 ?_
  have hE:=Option.some.inj hM
  exact X.gx [] (hc_2 (w64 (x1+1)) hE.symm)
 obtain ⟨y_1,hM,hy⟩:=zz hM
 rw [hr_1 _ hy.symm] at hM
 refine au 1 ?_
 exact X.gx [] (hj_1 () hM)
theorem Zg {l:(List zT)} {id:Int} {r:Int} (hM:zn l id=some r):Ct Tryz.prog 40 [(V.sl (List.map zQ l)),(V.i id),(V.fn 41 [])] (V.i r):=by
 refine zP zl rfl ?_
 unfold zn at hM
 obtain ⟨y,h_1,hM⟩:=zF hM
 refine au 8 ?_
 refine X.zCG (jN h_1) rfl rfl rfl (m:=9) rfl (.cons (.shut (n:=9) rfl) (.cons (FR.arg ⟨30,rfl⟩) .nil)) ?_
 refine au 2 ?_
 cases hM
 exact X.rt
theorem zB2 (s:zC):Ct Tryz.prog 44 [(zI s)] (V.b (JI s)):=by
 refine zP zl rfl ?_
 generalize hM:JI s=r
 unfold JI at hM
 refine au 5 ?_
 refine X.mid [(2,(V.b ((((decide (0≤s.Lo))&&(decide (s.Lo≤s.Hi)))&&(decide (s.Hi≤1048576)))&&(decide ((w64 (s.Hi - s.Lo))<1440)))))] ?_ ?_
 ·intro hg
  refine X.split (decide (0≤s.Lo)) (fun h_1=>?_) (fun h_1=>?_)
  ·refine X.split (decide (s.Lo≤s.Hi)) (fun h_2=>?_) (fun h_2=>?_)
   ·refine X.split (decide (s.Hi≤1048576)) (fun h_3=>?_) (fun h_3=>?_)
    ·refine au 25 ?_
     exact X.ng hg rfl (by simp only [h_1,h_2,h_3,X.bb])
    refine au 25 ?_
    exact X.ng hg rfl (by simp only [h_1,h_2,h_3,X.bb])
   refine au 25 ?_
   exact X.ng hg rfl (by simp only [h_1,h_2,X.bb])
  refine au 25 ?_
  exact X.ng hg rfl (by simp only [h_1,X.bb])
 subst hM
 exact X.rt
set_option maxHeartbeats 4000000 in
theorem QJ {h:zG} {r:Int} (hM:yG h=some r):Ct Tryz.prog 39 [(zD h)] (V.i r):=by
 refine zP zl rfl ?_
 unfold yG at hM
 obtain ⟨y,h_1,hM⟩:=zF hM
 refine au 8 ?_
 refine X.ca (zCW h_1) ?_
 refine au 6 ?_
 refine X.cm hM (fun h_2 hM=>?_) (fun h_2 hM=>?_)
 ·refine au 4 ?_
  cases hM
  exact X.rt
 refine au 3 ?_
 refine X.mid [(24,(V.b ((decide (6<(h.Berths.length:Int)))||(decide (12<(h.Tides.length:Int)))))),(1,(V.ptr 0 0 0))] ?_ ?_
 ·intro hg
  refine X.split (decide (6<(h.Berths.length:Int))) (fun h_3=>?_) (fun h_3=>?_)
  ·refine au 11 ?_
   exact X.ng hg rfl (by simp only [h_3,X.bb])
  refine au 11 ?_
  exact X.ng hg rfl (by simp only [h_3,X.bb])
 refine X.cm hM (fun h_4 hM=>?_) (fun h_4 hM=>?_)
 ·refine au 3 ?_
  cases hM
  exact X.rt
 refine au 8 ?_
 refine X.join (τ:=Unit) (fun v=>QQ h=some r) (fun v=>⟨[(1,(V.ptr 0 0 0))],[.rows 6 [(zD h)]],0,none,74⟩) ?_ ?_
 ·intro _ hM
  replace hM:QQ h=some r:=hM
  unfold QQ at hM
  refine au 10 ?_
  refine X.join (τ:=Unit) (fun v=>QP h=some r) (fun v=>⟨[(1,(V.ptr 0 0 0))],[.rows 6 [(zD h)]],0,none,74⟩) ?_ ?_
  ·intro _ hM
   replace hM:QP h=some r:=hM
   unfold QP at hM
   refine au 4 ?_
   refine X.ca (ZF h.Keel 0 8000) ?_
   refine au 2 ?_
   refine X.cm hM (fun h_5 hM=>?_) (fun h_5 hM=>?_)
   ·refine au 3 ?_
    cases hM
    exact X.rt
   refine au 4 ?_
   cases hM
   exact X.rt
  intro hj_2
  refine au 1 ?_
  refine X.gx [some 0] (X.loop (σ:=(Int×Int)) (fun v=>⟨[(1,(V.ptr 0 0 0)),(6,(V.i v.1)),(52,(V.sl (List.map zI h.Tides))),(53,(V.i (h.Tides.length:Int))),(54,(V.i v.2))],[.rows 6 [(zD h)]],0,none,74⟩) hM ?_ rfl)
  rintro ⟨last,x1⟩ b_1 hM hc_3 hr_1
  rw [zAT] at hM
  refine au 3 ?_
  refine GS.seq ?_
  refine X.cm hM (fun h_6 hM=>?_) (fun h_6 hM=>?_)
  ·obtain ⟨x,h_7,hM⟩:=zF hM
   refine au 7 ?_
   refine X.op0W rfl rfl rfl ?_
   refine au 3 ?_
   refine X.mid [(66,(V.b ((!(JI x))||(decide (x.Lo≤last))))),(1,(V.ptr 0 0 0)),(8,(V.ptr 1 0 0)),(52,(V.sl (List.map zI h.Tides))),(53,(V.i (h.Tides.length:Int))),(54,(V.i x1))] ?_ ?_
   ·intro hg
    refine X.split (!(JI x)) (fun h_8=>?_) (fun h_8=>?_)
    ·refine X.q rfl ?_
     refine X.ca (zB2 x) ?_
     refine au 8 ?_
     exact X.ng hg rfl (by simp only [h_8,X.bb])
    refine X.q rfl ?_
    refine X.ca (zB2 x) ?_
    refine au 8 ?_
    exact X.ng hg rfl (by simp only [h_8,X.bb])
   refine X.cm hM (fun h_9 hM=>?_) (fun h_9 hM=>?_)
   ·refine au 3 ?_
    have hE:=Option.some.inj hM
    replace hE:=hr_1 _ hE.symm
    subst hE
    exact X.rt
   refine au 11 ?_
   have hE:=Option.some.inj hM
   exact X.gx [some 0] (hc_3 (x.Hi,w64 (x1+1)) hE.symm)
  obtain ⟨y_1,hM,hy⟩:=zz hM
  rw [hr_1 _ hy.symm] at hM
  refine au 1 ?_
  exact X.gx [some 0] (hj_2 () hM)
 intro hj_1
 refine au 1 ?_
 refine X.gx [some 0] (X.loop (σ:=Int) (fun v=>⟨[(1,(V.ptr 0 0 0)),(26,(V.sl (List.map zQ h.Berths))),(27,(V.i (h.Berths.length:Int))),(28,(V.i v))],[.rows 6 [(zD h)]],0,none,74⟩) hM ?_ rfl)
 intro x3 b_1 hM hc_4 hr_1
 rw [zAS] at hM
 refine au 3 ?_
 refine GS.seq ?_
 refine X.cm hM (fun h_10 hM=>?_) (fun h_10 hM=>?_)
 ·obtain ⟨x2,h_11,hM⟩:=zF hM
  refine au 9 ?_
  refine X.op0W rfl rfl rfl ?_
  refine au 3 ?_
  refine X.mid [(42,(V.b ((!(zu x2.ID 1 1099511627776))||(!(zu x2.Depth 0 8000))))),(1,(V.ptr 0 0 0)),(4,(V.i x3)),(5,(V.ptr 1 0 0)),(26,(V.sl (List.map zQ h.Berths))),(27,(V.i (h.Berths.length:Int))),(28,(V.i x3))] ?_ ?_
  ·intro hg
   refine X.split (!(zu x2.ID 1 1099511627776)) (fun h_12=>?_) (fun h_12=>?_)
   ·refine au 2 ?_
    refine X.ca (ZF x2.ID 1 1099511627776) ?_
    refine au 8 ?_
    exact X.ng hg rfl (by simp only [h_12,X.bb])
   refine au 2 ?_
   refine X.ca (ZF x2.ID 1 1099511627776) ?_
   refine au 4 ?_
   refine X.ca (ZF x2.Depth 0 8000) ?_
   refine au 3 ?_
   exact X.ng hg rfl (by simp only [h_12,X.bb])
  refine X.cm hM (fun h_13 hM=>?_) (fun h_13 hM=>?_)
  ·refine au 3 ?_
   have hE:=Option.some.inj hM
   replace hE:=hr_1 _ hE.symm
   subst hE
   exact X.rt
  obtain ⟨y1,h_14,hM⟩:=zF hM
  refine au 6 ?_
  refine X.ca (Zg h_14) ?_
  refine au 3 ?_
  refine X.cm hM (fun h_15 hM=>?_) (fun h_15 hM=>?_)
  ·refine au 3 ?_
   have hE:=Option.some.inj hM
   replace hE:=hr_1 _ hE.symm
   subst hE
   exact X.rt
  refine au 6 ?_
  have hE:=Option.some.inj hM
  exact X.gx [some 0] (hc_4 (w64 (x3+1)) hE.symm)
 obtain ⟨y_1,hM,hy⟩:=zz hM
 rw [hr_1 _ hy.symm] at hM
 refine au 1 ?_
 exact X.gx [some 0] (hj_1 () hM)
def Ja (n:Nat):List V:=V.i (-1) :: (List.range n).map fun i=>V.i (i:Nat)
def Y2 (w:zO):V:=.fmap (Ja w.Cycles.length) (.fn 116 [.fptr [zY w] 0 0] :: w.Cycles.map fun c=>.fn 118 [.fptr [zk c] 0 0])
theorem zGl : ∀ (n a:Nat) (i:Int) (k:Nat),a≤i→i<a+n→zBG (.i i) ((List.range' a n).map fun i=>V.i (i:Nat)) k=some (some (k+(i.toNat - a)))
 | 0,a,i,k,h1,h2=>by omega
 | n+1,a,i,k,h1,h2=>by
  simp only [List.range'_succ,List.map_cons,zBG,zBW,JP,if_true]
  by_cases h:i=a
  ·subst h; simp
  ·have ih:=zGl n (a+1) i (k+1) (by omega) (by omega)
   simp only [h,decide_false,ih]
   congr 2
   omega
theorem zL7 : ∀ (n a:Nat) (i:Int) (k:Nat),(i<a∨a+n≤i)→zBG (.i i) ((List.range' a n).map fun i=>V.i (i:Nat)) k=some none
 | 0,a,i,k,h=>by simp [zBG]
 | n+1,a,i,k,h=>by
  simp only [List.range'_succ,List.map_cons,zBG,zBW,JP,if_true]
  have h1 : ¬ i=a:=by omega
  simp only [h1,decide_false]
  exact zL7 n (a+1) i (k+1) (by omega)
theorem zJ4 {K:List (Nat×V)} {H:List Blk} {lo nid:Nat} {xo ko:Operand} {w:zO} {i:Int} (h:decide (i = -1)=true) (hx:kev K xo=some (Y2 w)) (hk:kev K ko=some (.i i)):zS CC K H lo nid (.lookup 173 xo ko false)=some ⟨.fn 116 [.fptr [zY w] 0 0],[],[]⟩:=by
 have h1:i = -1:=by simpa using h
 subst h1
 simp only [zS,YE,hx,hk]
 rfl
theorem zJ5 {K:List (Nat×V)} {H:List Blk} {lo nid:Nat} {xo ko:Operand} {w:zO} {i:Int} {c:zX} (h:ix w.Cycles i=some c) (hx:kev K xo=some (Y2 w)) (hk:kev K ko=some (.i i)):zS CC K H lo nid (.lookup 173 xo ko false)=some ⟨.fn 118 [.fptr [zk c] 0 0],[],[]⟩:=by
 obtain ⟨h0,h1,h2⟩:=zGg h
 have hf:=zGl w.Cycles.length 0 i 1 (by omega) (by omega)
 have hne : ¬ i = -1:=by omega
 simp only [zS,YE,hx,hk]
 unfold zDz Y2
 have hm:zFX CC 173=some (.int .i64,t142):=rfl
 simp only [hm,zCr,JP,cond_true,zB6,Ja,zBG,zBW,if_true,hne,decide_false]
 rw [List.range_eq_range',hf]
 simp only [Nat.sub_zero]
 rw [show 1+i.toNat=i.toNat+1 by omega]
 simp only [Am.get]
 rw [ZK,List.getElem?_map,h2]
 rfl
theorem zDp (n:Nat):Ja n=(((-1:Int) :: (List.range n).map fun (i:Nat)=>(i:Int))).map V.i:=by simp [Ja]
theorem zIo (n:Nat):Ja (n+1)=Ja n++[V.i (n:Nat)]:=by simp [Ja,List.range_succ]
def zAs (n:Nat):List V:=.fn 116 [.ptr 0 0 0] :: (List.range n).map fun i=>.fn 118 [.ptr (i+2) 0 0]
theorem zJx (n:Nat):zAs (n+1)=zAs n++[.fn 118 [.ptr (n+2) 0 0]]:=by simp [zAs,List.range_succ]
def zFP (w:zO) (i:Nat):List Blk:=(w.Cycles.take i).map fun c=>.rows 4 [zk c]
def zBD (w:zO) (i:Nat):List Blk:=.rows 3 [zY w] :: .map (Ja i) (zAs i) :: zFP w i
theorem zM5 (w:zO) (i:Nat) (h:i≤w.Cycles.length):(zBD w i).length=i+2:=by simp [zBD,zFP]; omega
theorem zLq (w:zO) (i:Nat) (c:zX) (h:w.Cycles[i]? = some c):hput (zBD w i++[.rows 4 [zk c]]) 1 (.map (Ja (i+1)) (zAs (i+1)))=zBD w (i+1):=by
 simp only [zBD,List.cons_append,hput,zFP,List.take_add_one,h,List.map_append]
 rfl
theorem zKe (w:zO) (j:Nat) (c:zX) (h:w.Cycles[j]? = some c):hget (zBD w w.Cycles.length) (j+2) = .rows 4 [zk c]:=by
 simp only [hget,zBD,Am.get,zFP,List.take_length]
 rw [ZK,List.getElem?_map,h]
 rfl
theorem zNy (w:zO):∃ n,frz (zBD w w.Cycles.length) 0 n (.map 1)=some (Y2 w):=by
 refine ⟨9,?_⟩
 have h1:mapO (frz (zBD w w.Cycles.length) 0 8) (Ja w.Cycles.length)=some (Ja w.Cycles.length):=by
  rw [zDp]; exact Qd (g:=frz (zBD w w.Cycles.length) 0 8) (f:=V.i) (fun _=>rfl) _
 have h2:∀ l:List Nat,(∀ j∈l,j<w.Cycles.length)→mapO (frz (zBD w w.Cycles.length) 0 8) (l.map fun i=>.fn 118 [.ptr (i+2) 0 0])=some (l.map fun i=>.fn 118 [.fptr [zk (w.Cycles.getD i default)] 0 0]):=by
  intro l
  induction l with
  | nil=>intro _; rfl
  | cons j r ih =>
   intro h
   have hj:=h j List.mem_cons_self
   have hg:=zKe w j (w.Cycles.getD j default) (by rw [List.getD_eq_getElem?_getD,List.getElem?_eq_getElem hj]; rfl)
   have h3:frz (zBD w w.Cycles.length) 0 8 (.fn 118 [.ptr (j+2) 0 0])=some (.fn 118 [.fptr [zk (w.Cycles.getD j default)] 0 0]):=by
    exact X.frzFn (X.mapO1 (X.frzPtr hg rfl))
   simp only [List.map_cons,mapO,h3,ih (fun x hx=>h x (List.mem_cons_of_mem _ hx))]
 have h4:=h2 (List.range w.Cycles.length) (fun j hj=>List.mem_range.1 hj)
 have h5:mapO (frz (zBD w w.Cycles.length) 0 8) (zAs w.Cycles.length)=some (.fn 116 [.fptr [zY w] 0 0] :: w.Cycles.map fun c=>.fn 118 [.fptr [zk c] 0 0]):=by
  have h6:frz (zBD w w.Cycles.length) 0 8 (.fn 116 [.ptr 0 0 0])=some (.fn 116 [.fptr [zY w] 0 0]):=rfl
  simp only [zAs,mapO,h6,h4]
  congr 2
  refine List.ext_getElem (by simp) fun i h1 h2=>?_
  simp only [List.length_map] at h2
  simp [List.getD_eq_getElem?_getD,h2]
 exact X.frzMap rfl h1 h5
theorem zIs {w r:zO} (hM:zC1 w=some r):Ct Tryz.prog 98 [zY w] (Y2 r):=by
 have hlen:w.Cycles.length≤9223372036854775807∧r=w:=by
  unfold zC1 at hM
  split at hM
  ·exact ⟨by assumption,(Option.some.inj hM).symm⟩
  ·cases hM
 obtain ⟨hlen,rfl⟩:=hlen
 refine zP zl rfl ?_
 refine au 7 ?_
 refine X.op0W rfl rfl rfl ?_
 refine au 11 ?_
 refine X.norm (H':=zBD r 0) [(12,V.i (0:Nat)),(11,V.i (r.Cycles.length:Nat)),(10,V.sl (r.Cycles.map zk)),(3,V.map 1)] ?_ rfl (sr rfl)
 refine X.loopI (fun i=>⟨[(12,V.i (i:Nat)),(11,V.i (r.Cycles.length:Nat)),(10,V.sl (r.Cycles.map zk)),(3,V.map 1)],zBD r i,0,none,22⟩) r.Cycles.length (fun i hi IH=>?_) ?_
 ·obtain ⟨c,hc⟩:∃ c,r.Cycles[i]? = some c:=⟨_,List.getElem?_eq_getElem hi⟩
  have hix:ix r.Cycles (i:Int)=some c:=by unfold ix; rw [if_pos (by omega)]; simpa using hc
  refine au 3 ?_
  refine GS.seq ?_
  refine X.cond rfl (fun h=>?_) (fun h=>?_)
  ·refine au 7 ?_
   refine X.opW rfl rfl X.zHa rfl ?_
   refine au 1 ?_
   refine X.op0W rfl (X.zNk (v:=zk c) (r:=zk c) rfl rfl rfl rfl rfl) X.puts_end' ?_
   refine au 5 ?_
   refine X.op0W rfl (X.zNF (kd:=.int .i64) (kv:=V.i (i:Nat)) (vv:=.fn 118 [.ptr (zBD r i).length 0 0]) (ks:=Ja i) (vs:=zAs i) rfl rfl rfl rfl rfl rfl (by rw [zDp]; exact X.zIR _ _ _ (by simp; omega))) rfl ?_
   refine au 6 ?_
   refine X.normH _ IH rfl ?_ (X.zNj rfl ?_ (sr rfl))
   ·rw [← zLq r i c hc]
    simp only [puts]
    have e1:qc (V.i (i:Nat)) (Ja i)=(Ja i).length:=by
     rw [zDp,X.zJY _ _ (by simp; omega),List.length_map]
    have e2:(Ja i).length=(zAs i).length:=by simp [Ja,zAs]
    rw [e1,X.zKB,e2,X.zKB,← zIo,zM5 r i (by omega),← zJx]
    rfl
   ·rw [zf (by omega) (by omega)]; rfl
  ·simp only [decide_eq_false_iff_not] at h
   exact absurd (by omega) h
 ·refine au 3 ?_
  refine GS.seq ?_
  refine X.cond rfl (fun h=>?_) (fun h=>?_)
  ·simp at h
  ·refine au 5 ?_
   exact GS.ret ⟨_,rfl,zNy r⟩
theorem zDT {w:zO} {r:zO×zO} (hM:QV w=some r):Ct Tryz.prog 71 [(zY w)] (V.fn 99 [(V.fptr [(zY r.1)] 0 0),(V.fptr [(Y2 r.2)] 0 0)]):=by
 refine zP zl rfl ?_
 unfold QV at hM
 obtain ⟨y,h_1,hM⟩:=zF hM
 refine au 6 ?_
 refine X.ca (zIs h_1) ?_
 refine au 1 ?_
 refine X.op0W rfl rfl rfl ?_
 refine au 5 ?_
 cases hM
 exact X.rt
theorem zEv {w:zO} {tick:Int} {r:Int} (hM:Ya w tick=some r):Ct Tryz.prog 117 [(zY w),(V.i tick)] (V.i r):=by
 refine zP zl rfl ?_
 unfold Ya at hM
 refine au 11 ?_
 refine X.join (τ:=Unit) (fun v=>YJ=some r) (fun v=>⟨[],[],0,none,24⟩) ?_ ?_
 ·intro _ hM
  replace hM:YJ=some r:=hM
  unfold YJ at hM
  refine au 3 ?_
  cases hM
  exact X.rt
 intro hj_1
 refine au 1 ?_
 refine X.gx [] (X.loop (σ:=Int) (fun v=>⟨[(1,(V.i tick)),(8,(V.sl (List.map ZN w.Shifts))),(9,(V.i (w.Shifts.length:Int))),(10,(V.i v))],[],0,none,24⟩) hM ?_ rfl)
 intro x1 b_1 hM hc_2 hr_1
 rw [YK] at hM
 refine au 3 ?_
 refine GS.seq ?_
 refine X.cm hM (fun h_1 hM=>?_) (fun h_1 hM=>?_)
 ·obtain ⟨x,h_2,hM⟩:=zF hM
  refine au 7 ?_
  refine X.op0W rfl rfl rfl ?_
  obtain ⟨q,h_3,hM⟩:=zF hM
  refine au 3 ?_
  refine X.opR rfl (X.quoE h_3 rfl rfl) rfl ?_
  refine au 4 ?_
  refine X.ca (ZX q x.From x.To) ?_
  refine GS.zV ?_
  refine X.cm hM (fun h_4 hM=>?_) (fun h_4 hM=>?_)
  ·refine au 5 ?_
   have hE:=Option.some.inj hM
   replace hE:=hr_1 _ hE.symm
   subst hE
   exact X.rt
  refine au 6 ?_
  have hE:=Option.some.inj hM
  exact X.gx [] (hc_2 (w64 (x1+1)) hE.symm)
 obtain ⟨y_1,hM,hy⟩:=zz hM
 rw [hr_1 _ hy.symm] at hM
 refine au 1 ?_
 exact X.gx [] (hj_1 () hM)
theorem zGy {tick:Int} {c:zO} {r:Int} (hM:zBb tick c=some r):Ct Tryz.prog 116 [(V.i tick),(V.fptr [(zY c)] 0 0)] (V.i r):=by
 refine zP zl rfl ?_
 unfold zBb at hM
 obtain ⟨y,h_1,hM⟩:=zF hM
 refine au 6 ?_
 refine X.ca (zEv h_1) ?_
 refine au 2 ?_
 cases hM
 exact X.rt
theorem zEb {a:Int} {b:Int} {r:Int×Int} (hM:zAc a b=some r):Ct Tryz.prog 123 [(V.i a),(V.i b)] (V.tup [(V.i r.1),(V.i r.2)]):=by
 refine zP zl rfl ?_
 unfold zAc at hM
 obtain ⟨q,h_1,hM⟩:=zF hM
 obtain ⟨q1,h_2,hM⟩:=zF hM
 refine au 7 ?_
 refine X.opR rfl (X.remE h_1 rfl rfl) rfl ?_
 refine au 3 ?_
 refine X.opR rfl (X.remE h_2 rfl rfl) rfl ?_
 obtain ⟨q2,h_3,hM⟩:=zF hM
 refine au 7 ?_
 refine X.opR rfl (X.quoE h_3 rfl rfl) rfl ?_
 refine au 4 ?_
 cases hM
 exact X.rt
theorem zIq {c:zX} {tick:Int} {r:Int} (hM:zBq c tick=some r):Ct Tryz.prog 119 [(zk c),(V.i tick)] (V.i r):=by
 refine zP zl rfl ?_
 unfold zBq at hM
 obtain ⟨y,h_1,hM⟩:=zF hM
 refine au 11 ?_
 refine X.ca (zEb h_1) ?_
 obtain ⟨y1,h_2,hM⟩:=zF hM
 refine au 11 ?_
 refine X.ca (zEb h_2) ?_
 obtain ⟨x,h_3,hM⟩:=zF hM
 refine au 14 ?_
 cases hM
 exact X.rt
theorem zGx {tick:Int} {c:zX} {r:Int} (hM:zBa tick c=some r):Ct Tryz.prog 118 [(V.i tick),(V.fptr [(zk c)] 0 0)] (V.i r):=by
 refine zP zl rfl ?_
 unfold zBa at hM
 obtain ⟨y,h_1,hM⟩:=zF hM
 refine au 6 ?_
 refine X.ca (zIq h_1) ?_
 refine au 2 ?_
 cases hM
 exact X.rt
theorem zAI {tick:Int} {c:zO} {c1:zO} {r:Int} (hM:Ju tick c c1=some r):Ct Tryz.prog 99 [(V.i tick),(V.fptr [(zY c)] 0 0),(V.fptr [(Y2 c1)] 0 0)] (V.i r):=by
 refine zP zl rfl ?_
 unfold Ju at hM
 refine au 12 ?_
 refine X.join (τ:=Int) (fun v=>Yx v=some r) (fun v=>⟨[(5,(V.i v))],[],0,none,24⟩) ?_ ?_
 ·intro h hM
  replace hM:Yx h=some r:=hM
  unfold Yx at hM
  refine au 4 ?_
  cases hM
  exact X.rt
 intro hj_1
 refine au 1 ?_
 refine X.gx [] (X.loop (σ:=(Int×Int)) (fun v=>⟨[(0,(V.i tick)),(1,(V.fptr [(zY c)] 0 0)),(2,(V.fptr [(Y2 c1)] 0 0)),(5,(V.i v.1)),(6,(V.i v.2))],[],0,none,24⟩) hM ?_ rfl)
 rintro ⟨h1,i⟩ b_1 hM hc_2 hr_1
 rw [Yy] at hM
 refine au 8 ?_
 refine X.cm hM (fun h_1 hM=>?_) (fun h_1 hM=>?_)
 ·refine au 7 ?_
  refine X.split (decide (i = -1)) (fun h_2=>?_) (fun h_2=>?_)
  ·replace hM:=Qn h_2 hM
   refine X.opR rfl (zJ4 h_2 rfl rfl) rfl ?_
   obtain ⟨y,h_4,hM⟩:=zF hM
   refine X.q rfl ?_
   refine X.ca (zGy h_4) ?_
   refine au 9 ?_
   have hE:=Option.some.inj hM
   exact X.gx [] (hc_2 (w64 (h1+y),w64 (i+1)) hE.symm)
  replace hM:=Qo h_2 hM
  obtain ⟨c2,h_3,hM⟩:=zF hM
  refine X.opR rfl (zJ5 h_3 rfl rfl) rfl ?_
  obtain ⟨y1,h_5,hM⟩:=zF hM
  refine X.q rfl ?_
  refine X.ca (zGx h_5) ?_
  refine au 9 ?_
  have hE:=Option.some.inj hM
  exact X.gx [] (hc_2 (w64 (h1+y1),w64 (i+1)) hE.symm)
 obtain ⟨y_1,hM,hy⟩:=zz hM
 rw [hr_1 _ hy.symm] at hM
 refine au 1 ?_
 exact X.gx [] (hj_1 h1 hM)
theorem zHi {w:zO} {tick:Int} {r:Int×Int} (hM:zDa w tick=some r):Ct Tryz.prog 42 [(zY w),(V.i tick)] (V.tup [(V.i r.1),(V.i r.2)]):=by
 refine zP zl rfl ?_
 unfold zDa at hM
 obtain ⟨y,h_1,hM⟩:=zF hM
 refine au 8 ?_
 refine X.ca (zCW h_1) ?_
 refine au 6 ?_
 refine X.cm hM (fun h_2 hM=>?_) (fun h_2 hM=>?_)
 ·refine au 5 ?_
  cases hM
  exact X.rt
 refine au 4 ?_
 refine X.ca (QI tick) ?_
 refine au 2 ?_
 refine X.cm hM (fun h_3 hM=>?_) (fun h_3 hM=>?_)
 ·refine au 4 ?_
  cases hM
  exact X.rt
 obtain ⟨y1,h_4,hM⟩:=zF hM
 obtain ⟨y2,h_5,hM⟩:=zF hM
 refine au 3 ?_
 refine X.ca (zDT h_4) (X.q rfl ?_)
 refine X.ca (zAI h_5) ?_
 refine au 3 ?_
 cases hM
 exact X.rt
theorem zHs {h:zG} {id:Int} {tick:Int} {r:Int×Int} (hM:zCQ h id tick=some r):Ct Tryz.prog 15 [(zD h),(V.i id),(V.i tick)] (V.tup [(V.i r.1),(V.i r.2)]):=by
 refine zP zl rfl ?_
 unfold zCQ at hM
 obtain ⟨y,h_1,hM⟩:=zF hM
 refine au 8 ?_
 refine X.ca (QJ h_1) ?_
 refine au 6 ?_
 refine X.cm hM (fun h_2 hM=>?_) (fun h_2 hM=>?_)
 ·refine au 5 ?_
  cases hM
  exact X.rt
 obtain ⟨y1,h_3,hM⟩:=zF hM
 refine au 5 ?_
 refine X.ca (Zg h_3) ?_
 refine au 7 ?_
 refine X.cm hM (fun h_4 hM=>?_) (fun h_4 hM=>?_)
 ·refine au 4 ?_
  cases hM
  exact X.rt
 obtain ⟨y2,h_5,hM⟩:=zF hM
 refine au 5 ?_
 refine X.ca (zHi h_5) ?_
 refine au 11 ?_
 refine X.cm hM (fun h_6 hM=>?_) (fun h_6 hM=>?_)
 ·refine au 4 ?_
  cases hM
  exact X.rt
 obtain ⟨x,h_7,hM⟩:=zF hM
 refine au 13 ?_
 cases hM
 exact X.rt
theorem zDV (h:zG) (b:zT) (draught:Int):Ct Tryz.prog 46 [(zD h),(zQ b),(V.i draught)] (V.i (YX h b draught)):=by
 refine zP zl rfl ?_
 generalize hM:YX h b draught=r
 unfold YX at hM
 refine au 15 ?_
 subst hM
 exact X.rt
theorem zGz (s:zC):Ct Tryz.prog 100 [(zI s)] (V.i (ql s)):=by
 refine zP zl rfl ?_
 generalize hM:ql s=r
 unfold ql at hM
 refine au 7 ?_
 refine X.mid [(3,(V.b (((decide (s.Lo<0))||(decide (s.Hi<s.Lo)))||(decide (1048576<s.Hi))))),(1,(V.ptr 0 0 0))] ?_ ?_
 ·intro hg
  refine X.split (decide (s.Lo<0)) (fun h_1=>?_) (fun h_1=>?_)
  ·refine au 17 ?_
   exact X.ng hg rfl (by simp only [h_1,X.bb])
  refine X.split (decide (s.Hi<s.Lo)) (fun h_2=>?_) (fun h_2=>?_)
  ·refine au 17 ?_
   exact X.ng hg rfl (by simp only [h_1,h_2,X.bb])
  refine au 17 ?_
  exact X.ng hg rfl (by simp only [h_1,h_2,X.bb])
 refine X.cm hM (fun h_3 hM=>?_) (fun h_3 hM=>?_)
 ·refine au 3 ?_
  subst hM
  exact X.rt
 refine au 9 ?_
 refine X.cm hM (fun h_4 hM=>?_) (fun h_4 hM=>?_)
 ·refine au 3 ?_
  subst hM
  exact X.rt
 refine au 5 ?_
 subst hM
 exact X.rt
theorem zIt {w:zO} {s:zC} {r:Int} (hM:zBr w s=some r):Ct Tryz.prog 72 [(zY w),(zI s)] (V.i r):=by
 refine zP zl rfl ?_
 unfold zBr at hM
 obtain ⟨y,h_1,hM⟩:=zF hM
 refine au 8 ?_
 refine X.ca (zCW h_1) ?_
 refine au 6 ?_
 refine X.cm hM (fun h_2 hM=>?_) (fun h_2 hM=>?_)
 ·refine au 4 ?_
  cases hM
  exact X.rt
 refine au 3 ?_
 refine X.ca (zGz s) ?_
 refine au 2 ?_
 cases hM
 exact X.rt
theorem zHh (w:zO) (s:zC):Ct Tryz.prog 73 [(zY w),(zI s)] (V.fn 101 [(V.fptr [(zY ((ZI w s).1))] 0 0),(V.fptr [(zI ((ZI w s).2))] 0 0)]):=by
 refine zP zl rfl ?_
 generalize hM:ZI w s=r
 unfold ZI at hM
 refine au 9 ?_
 subst hM
 exact X.rt
set_option maxHeartbeats 4000000 in
theorem zDU {w:zO} {s:zC} {height:Int} {r:(List zC)×Int} (hM:QW w s height=some r):Ct Tryz.prog 45 [(zY w),(zI s),(V.i height)] (V.tup [(V.sl (List.map zI r.1)),(V.i r.2)]):=by
 refine zP zl rfl ?_
 unfold QW at hM
 obtain ⟨y,h_1,hM⟩:=zF hM
 refine au 11 ?_
 refine X.ca (zIt h_1) ?_
 refine au 6 ?_
 refine X.cm hM (fun h_2 hM=>?_) (fun h_2 hM=>?_)
 ·refine au 5 ?_
  cases hM
  exact X.rt
 refine au 2 ?_
 refine X.opW (H':=[.rows 3 [(zY w)],.rows 2 [(zI s)],.rows 1 [(V.i height)],.rows 1 [V.nil]]) rfl rfl rfl rfl ?_
 refine au 5 ?_
 refine X.ca (zHh w s) ?_
 refine au 2 ?_
 refine X.gc [some 2,some 3] (H':=[.rows 1 [(V.i height)],.rows 1 [V.nil]]) (K':=[(5,(V.ptr 0 0 0)),(9,(V.ptr 1 0 0)),(20,(V.fn 101 [(V.fptr [(zY ((ZI w s).1))] 0 0),(V.fptr [(zI ((ZI w s).2))] 0 0)]))]) ?_ rfl rfl rfl (ga rfl rfl) (gb9 rfl rfl rfl (gb9 rfl rfl rfl ZA))
 refine X.range rfl rfl (yA ⟨9,rfl⟩ (yA ⟨9,rfl⟩ (yA ⟨9,rfl⟩ zH7))) rfl ?_
 intro R_3 hrn_3 hrK_3 hrp_3 hra_3 hrb_3 hlow_3
 obtain ⟨y1,h_4,hM⟩:=zF hM
 refine au 2 ?_
 refine X.ca (zDT h_4) ?_
 obtain ⟨y2,h_5,hM⟩:=zF hM
 refine au 2 ?_
 refine GS.seq ?_
 refine X.draw (by kernel_rfl) ?_
 refine au 8 ?_
 refine X.dca (zAI h_5) ?_
 refine au 2 ?_
 refine X.dop0 rfl rfl rfl rfl (by kernel_rfl) rfl ?_
 refine au 1 ?_
 refine X.norm [(0,(V.yld 2)),(2,(V.fptr [(zI ((ZI w s).2))] 0 0)),(4,(V.fn 99 [(V.fptr [(zY y1.1)] 0 0),(V.fptr [(Y2 y1.2)] 0 0)])),(5,(V.ptr 3 0 0))] ?_ rfl (sr rfl)
 refine au 7 ?_
 refine X.join (τ:=Int×Int×Int×(List zC)) (fun v=>Yb height v.1 v.2.1 v.2.2.1 v.2.2.2=some r) (fun v=>⟨[(0,(V.yld 2)),(5,(V.ptr 3 0 0))],[.rows 1 [(V.i height)],.rows 1 [(ovl 4 v.2.2.2)],lr R_3 .ready none,.rows 3 [(V.agg [(V.i v.1),(V.i v.2.1),(V.i v.2.2.1)])],obl 2 zI v.2.2.2],0,none,51⟩) ?_ ?_
 ·rintro ⟨Lo,Hi,Height,l⟩ hM
  replace hM:Yb height Lo Hi Height l=some r:=hM
  unfold Yb at hM
  refine au 3 ?_
  refine X.yld hrn_3 hrK_3 hrp_3 hra_3 hrb_3 rfl rfl rfl rfl rfl rfl ?_
  refine GS.region ?_
  refine X.opW (H':=[.rows 1 [(V.i height)],.rows 1 [(ovl 4 l)],lr R_3 .ready none,.rows 3 [(V.agg [(V.i Lo),(V.i Hi),(V.i Height)])],obl 2 zI l,.rows 3 [(V.agg [(V.i 0),(V.i 0),(V.i 0)])]]) rfl rfl rfl rfl ?_
  refine X.op0W (H':=[.rows 1 [(V.i height)],.rows 1 [(ovl 4 l)],lr R_3 .ready none,.rows 3 [(V.agg [(V.i Lo),(V.i Hi),(V.i Height)])],obl 2 zI l,.rows 3 [(V.agg [(V.i Lo),(V.i Hi),(V.i Height)])]]) rfl rfl rfl ?_
  refine GS.zV ?_
  refine GS.nil (X.begin' rfl rfl ?_ rfl)
  refine au 8 ?_
  refine X.cm hM (fun h_6 hM=>?_) (fun h_6 hM=>?_)
  ·refine au 1 ?_
   refine GS.nil ⟨_,rfl,?_⟩
   refine X.norm (H':=[.rows 1 [(V.i height)],.rows 1 [(ovl 4 l)],lr R_3 .ready none,.rows 3 [(V.agg [(V.i Lo),(V.i Hi),(V.i Height)])],obl 2 zI l,.rows 3 [(V.agg [(V.i Lo),(V.i Hi),(V.i Height)])]]) [(50,(V.b true))] ?_ rfl (sr rfl)
   refine GS.zV ?_
   refine GS.nil ⟨_,_,rfl,rfl,?_⟩
   refine X.norm (H':=[.rows 1 [(V.i height)],.rows 1 [(ovl 4 l)],.dead,.rows 3 [(V.agg [(V.i Lo),(V.i Hi),(V.i Height)])],obl 2 zI l,.rows 3 [(V.agg [(V.i Lo),(V.i Hi),(V.i Height)])]]) [(5,(V.ptr 0 0 0)),(9,(V.ptr 1 0 0)),(20,(V.fn 101 [(V.fptr [(zY ((ZI w s).1))] 0 0),(V.fptr [(zI ((ZI w s).2))] 0 0)]))] ?_ rfl (sr rfl)
   refine au 2 ?_
   refine X.opR rfl (v:=(ovl 4 l)) (by rcases X.Yv (z:=true) 4 l with h0 | ⟨n0,h0⟩ <;> simp only [h0] <;> rfl) rfl ?_
   refine au 3 ?_
   have hE:=Option.some.inj hM
   subst hE
   exact GS.ret ⟨_,rfl,FR.tup (.cons (FR.ovl (f:=zI) (l:=l) 9 rfl rfl (fun _=>rfl)) (.cons ⟨30,rfl⟩ .nil))⟩
  refine au 2 ?_
  refine X.opR rfl (v:=(ovl 4 l)) (by rcases X.Yv (z:=true) 4 l with h0 | ⟨n0,h0⟩ <;> simp only [h0] <;> rfl) rfl ?_
  refine X.opR rfl (X.lenN (l:=l) rfl rfl rfl) rfl ?_
  obtain ⟨x,h_7,hM⟩:=Q5 hM
  refine au 2 ?_
  refine GS.seq ?_
  refine X.mid [(42,(V.b ((decide (0<(l.length:Int)))&&(decide ((w64 (x.Hi+1))=Lo))))),(9,(V.ptr 1 0 0)),(10,(V.ptr 5 0 0)),(11,(V.i (l.length:Int)))] ?_ ?_
  ·intro hg
   refine X.split (decide (0<(l.length:Int))) (fun h_8=>?_) (fun h_8=>?_)
   ·refine au 4 ?_
    refine X.cop (X.on_t rfl rfl rfl h_8) (v:=(ovl 4 l)) (by rcases X.Yv (z:=true) 4 l with h0 | ⟨n0,h0⟩ <;> simp only [h0] <;> rfl) rfl rfl ?_
    refine au 2 ?_
    refine X.cop (X.on_t rfl rfl rfl h_8) (X.zE5 (h_7 h_8) rfl rfl rfl rfl rfl) rfl rfl ?_
    refine au 1 ?_
    refine X.cop (X.on_t rfl rfl rfl h_8) (X.zOH (h_7 h_8) rfl rfl rfl rfl) rfl rfl ?_
    refine au 7 ?_
    exact X.ng hg rfl (by simp only [h_8,X.bb])
   refine au 17 ?_
   exact X.ng hg rfl (by simp only [h_8,X.bb])
  refine X.cm hM (fun h_9 hM=>?_) (fun h_9 hM=>?_)
  ·obtain ⟨x1,h_10,hM⟩:=zF hM
   refine GS.region ?_
   refine X.opR rfl (v:=(ovl 4 l)) (by rcases X.Yv (z:=true) 4 l with h0 | ⟨n0,h0⟩ <;> simp only [h0] <;> rfl) rfl ?_
   refine au 5 ?_
   refine X.opR rfl (X.zE5 h_10 rfl rfl rfl rfl rfl) rfl (X.q rfl ?_)
   refine X.op0W (H':=[.rows 1 [(V.i height)],.rows 1 [(ovl 4 l)],lr R_3 .busy none,.rows 3 [(V.agg [(V.i Lo),(V.i Hi),(V.i Height)])],obl 2 zI (put l (w64 ((l.length:Int) - 1)) (⟨x1.Lo,Hi⟩:zC)),.rows 3 [(V.agg [(V.i Lo),(V.i Hi),(V.i Height)])]]) rfl (X.zC2 (b:=(⟨x1.Lo,Hi⟩:zC)) h_10 rfl rfl rfl rfl rfl rfl rfl) rfl ?_
   refine au 2 ?_
   refine GS.nil ⟨_,rfl,?_⟩
   refine X.norm (H':=[.rows 1 [(V.i height)],.rows 1 [(ovl 4 l)],lr R_3 .ready none,.rows 3 [(V.agg [(V.i Lo),(V.i Hi),(V.i Height)])],obl 2 zI (put l (w64 ((l.length:Int) - 1)) (⟨x1.Lo,Hi⟩:zC)),.rows 3 [(V.agg [(V.i Lo),(V.i Hi),(V.i Height)])]]) [(50,(V.b true))] ?_ rfl (sr rfl)
   refine GS.zV ?_
   refine GS.nil ⟨_,_,rfl,rfl,?_⟩
   refine X.norm (H':=[.rows 1 [(V.i height)],.rows 1 [(ovl 4 l)],.dead,.rows 3 [(V.agg [(V.i Lo),(V.i Hi),(V.i Height)])],obl 2 zI (put l (w64 ((l.length:Int) - 1)) (⟨x1.Lo,Hi⟩:zC)),.rows 3 [(V.agg [(V.i Lo),(V.i Hi),(V.i Height)])]]) [(5,(V.ptr 0 0 0)),(9,(V.ptr 1 0 0)),(20,(V.fn 101 [(V.fptr [(zY ((ZI w s).1))] 0 0),(V.fptr [(zI ((ZI w s).2))] 0 0)]))] ?_ rfl (sr rfl)
   refine au 2 ?_
   refine X.opR rfl (v:=(ovl 4 l)) (by rcases X.Yv (z:=true) 4 l with h0 | ⟨n0,h0⟩ <;> simp only [h0] <;> rfl) rfl ?_
   refine au 3 ?_
   have hE:=Option.some.inj hM
   subst hE
   exact GS.ret ⟨_,rfl,FR.tup (.cons (FR.eq X.zG5 (FR.ovl (f:=zI) (l:=(put l (w64 ((l.length:Int) - 1)) (⟨x1.Lo,Hi⟩:zC))) 9 rfl rfl (fun _=>rfl))) (.cons ⟨30,rfl⟩ .nil))⟩
  obtain ⟨l1,h_11,hM⟩:=zF hM
  refine GS.region ?_
  refine X.opR rfl (v:=(ovl 4 l)) (by rcases X.Yv (z:=true) 4 l with h0 | ⟨n0,h0⟩ <;> simp only [h0] <;> rfl) rfl ?_
  refine au 2 ?_
  refine X.opW (H':=[.rows 1 [(V.i height)],.rows 1 [(ovl 4 l)],lr R_3 .busy none,.rows 3 [(V.agg [(V.i Lo),(V.i Hi),(V.i Height)])],obl 2 zI l,.rows 3 [(V.agg [(V.i Lo),(V.i Hi),(V.i Height)])],.rows 2 (List.map zI ([(⟨Lo,Hi⟩:zC)]))]) rfl rfl rfl rfl ?_
  refine X.appN (f:=zI) h_11 (fun _=>rfl) (by rfl) (by rfl) (by rfl) (by rfl) (by rfl) (by rfl) (by rfl) (by rfl) (by rfl) (by rfl) (by rfl) (by exact rfl) (by rfl) (by rfl) ?_
  refine X.op0W (H':=[.rows 1 [(V.i height)],.rows 1 [(V.osl 7 0 (List.length l1))],lr R_3 .busy none,.rows 3 [(V.agg [(V.i Lo),(V.i Hi),(V.i Height)])],.dead,.rows 3 [(V.agg [(V.i Lo),(V.i Hi),(V.i Height)])],.rows 2 (List.map zI ([(⟨Lo,Hi⟩:zC)])),.rows 2 (List.map zI l1)]) rfl (v:=jF) (wr:=[(1,.rows 1 [(V.osl 7 0 (List.length l1))])]) (by rcases X.Yv (z:=true) 4 l with h0 | ⟨n0,h0⟩ <;> simp only [h0] <;> rfl) rfl ?_
  refine au 2 ?_
  refine GS.nil ⟨_,rfl,?_⟩
  refine X.norm (H':=[.rows 1 [(V.i height)],.rows 1 [(V.osl 7 0 (List.length l1))],lr R_3 .ready none,.rows 3 [(V.agg [(V.i Lo),(V.i Hi),(V.i Height)])],.dead,.rows 3 [(V.agg [(V.i Lo),(V.i Hi),(V.i Height)])],.rows 2 (List.map zI ([(⟨Lo,Hi⟩:zC)])),.rows 2 (List.map zI l1)]) [(50,(V.b true))] ?_ rfl (sr rfl)
  refine GS.zV ?_
  refine GS.nil ⟨_,_,rfl,rfl,?_⟩
  refine X.norm (H':=[.rows 1 [(V.i height)],.rows 1 [(V.osl 7 0 (List.length l1))],.dead,.rows 3 [(V.agg [(V.i Lo),(V.i Hi),(V.i Height)])],.dead,.rows 3 [(V.agg [(V.i Lo),(V.i Hi),(V.i Height)])],.rows 2 (List.map zI ([(⟨Lo,Hi⟩:zC)])),.rows 2 (List.map zI l1)]) [(5,(V.ptr 0 0 0)),(9,(V.ptr 1 0 0)),(20,(V.fn 101 [(V.fptr [(zY ((ZI w s).1))] 0 0),(V.fptr [(zI ((ZI w s).2))] 0 0)]))] ?_ rfl (sr rfl)
  refine au 6 ?_
  have hE:=Option.some.inj hM
  subst hE
  exact GS.ret ⟨_,rfl,FR.tup (.cons (FR.osl (f:=zI) (l:=l1) 9 rfl rfl (fun _=>rfl)) (.cons ⟨30,rfl⟩ .nil))⟩
 intro hj_1
 refine au 1 ?_
 refine X.gc [some 3,none] (X.loop (σ:=(Int×Int×Int×Int×(List zC))) (fun v=>⟨[(0,(V.yld 2)),(2,(V.fptr [(zI ((ZI w s).2))] 0 0)),(4,(V.fn 99 [(V.fptr [(zY y1.1)] 0 0),(V.fptr [(Y2 y1.2)] 0 0)])),(5,(V.ptr 3 0 0)),(6,(V.i v.1))],[.rows 1 [(V.i height)],.rows 1 [(ovl 4 v.2.2.2.2)],lr R_3 .ready none,.rows 3 [(V.agg [(V.i v.2.1),(V.i v.2.2.1),(V.i v.2.2.2.1)])],obl 2 zI v.2.2.2.2],0,none,51⟩) hM ?_ rfl) rfl rfl rfl (ga rfl rfl) (gb9 rfl rfl rfl (gb9 rfl rfl rfl (J4 hlow_3 rfl rfl rfl (gb9 rfl rfl rfl (gb_pad' rfl ZA)))))
 rintro ⟨t,Lo2,Hi1,Height2,l5⟩ b_1 hM hc_2 hr_1
 rw [qF] at hM
 refine au 7 ?_
 refine X.cm hM (fun h_12 hM=>?_) (fun h_12 hM=>?_)
 ·refine GS.skip (GS.seq ?_)
  refine X.join (τ:=Int×Int×(List zC)) (fun v=>jE t v.1 v.2.1 v.2.2=some b_1) (fun v=>⟨[(0,(V.yld 2)),(2,(V.fptr [(zI ((ZI w s).2))] 0 0)),(4,(V.fn 99 [(V.fptr [(zY y1.1)] 0 0),(V.fptr [(Y2 y1.2)] 0 0)])),(5,(V.ptr 3 0 0)),(6,(V.i t))],[.rows 1 [(V.i height)],.rows 1 [(ovl 4 v.2.2)],lr R_3 .ready none,.rows 3 [(V.agg [(V.i v.1),(V.i t),(V.i v.2.1)])],obl 2 zI v.2.2],0,none,51⟩) ?_ ?_
  ·rintro ⟨Lo1,Height1,l2⟩ hM
   replace hM:jE t Lo1 Height1 l2=some b_1:=hM
   unfold jE at hM
   refine au 5 ?_
   have hE:=Option.some.inj hM
   exact X.gc [some 3,some 4] (hc_2 (w64 (t+1),Lo1,t,Height1,l2) hE.symm) rfl rfl rfl (ga rfl rfl) (gb9 rfl rfl rfl (jI rfl rfl (ze rfl) (J4 hlow_3 rfl rfl rfl (gb9 rfl rfl rfl (Ze 9 rfl rfl (fun _=>rfl) ZA)))))
  intro hj_3
  obtain ⟨y3,h_13,hM⟩:=zF hM
  refine au 4 ?_
  refine X.ca (zAI h_13) ?_
  refine au 9 ?_
  refine X.cm hM (fun h_14 hM=>?_) (fun h_14 hM=>?_)
  ·refine au 4 ?_
   refine X.op0W (H':=[.rows 1 [(V.i height)],.rows 1 [(ovl 4 l5)],lr R_3 .ready none,.rows 3 [(V.agg [(V.i Lo2),(V.i t),(V.i Height2)])],obl 2 zI l5]) rfl rfl rfl ?_
   refine au 2 ?_
   exact X.gc [some 3,some 4] (hj_3 (Lo2,Height2,l5) hM) rfl rfl rfl (ga rfl rfl) (gb9 rfl rfl rfl (jI rfl rfl (ze rfl) (J4 hlow_3 rfl rfl rfl (gb9 rfl rfl rfl (Ze 9 rfl rfl (fun _=>rfl) ZA)))))
  refine au 5 ?_
  refine X.yld hrn_3 hrK_3 hrp_3 hra_3 hrb_3 rfl rfl rfl rfl rfl rfl ?_
  refine GS.region ?_
  refine X.opW (H':=[.rows 1 [(V.i height)],.rows 1 [(ovl 4 l5)],lr R_3 .ready none,.rows 3 [(V.agg [(V.i Lo2),(V.i Hi1),(V.i Height2)])],obl 2 zI l5,.rows 3 [(V.agg [(V.i 0),(V.i 0),(V.i 0)])]]) rfl rfl rfl rfl ?_
  refine X.op0W (H':=[.rows 1 [(V.i height)],.rows 1 [(ovl 4 l5)],lr R_3 .ready none,.rows 3 [(V.agg [(V.i Lo2),(V.i Hi1),(V.i Height2)])],obl 2 zI l5,.rows 3 [(V.agg [(V.i Lo2),(V.i Hi1),(V.i Height2)])]]) rfl rfl rfl ?_
  refine GS.zV ?_
  refine GS.nil (X.begin' rfl rfl ?_ rfl)
  refine au 8 ?_
  refine X.cm hM (fun h_15 hM=>?_) (fun h_15 hM=>?_)
  ·refine au 1 ?_
   refine GS.nil ⟨_,rfl,?_⟩
   refine X.norm (H':=[.rows 1 [(V.i height)],.rows 1 [(ovl 4 l5)],lr R_3 .ready none,.rows 3 [(V.agg [(V.i Lo2),(V.i Hi1),(V.i Height2)])],obl 2 zI l5,.rows 3 [(V.agg [(V.i Lo2),(V.i Hi1),(V.i Height2)])]]) [(0,(V.yld 2)),(2,(V.fptr [(zI ((ZI w s).2))] 0 0)),(4,(V.fn 99 [(V.fptr [(zY y1.1)] 0 0),(V.fptr [(Y2 y1.2)] 0 0)])),(5,(V.ptr 3 0 0)),(6,(V.i t)),(7,(V.i y3)),(41,(V.b true))] ?_ rfl (sr rfl)
   refine au 2 ?_
   refine GS.zCF rfl ?_
   refine au 7 ?_
   refine X.op0W (H':=[.rows 1 [(V.i height)],.rows 1 [(ovl 4 l5)],lr R_3 .ready none,.rows 3 [(V.agg [(V.i t),(V.i t),(V.i y3)])],obl 2 zI l5,.rows 3 [(V.agg [(V.i Lo2),(V.i Hi1),(V.i Height2)])]]) rfl rfl rfl ?_
   refine au 2 ?_
   exact X.gc [some 3,some 4] (hj_3 (t,y3,l5) hM) rfl rfl rfl (ga rfl rfl) (gb9 rfl rfl rfl (jI rfl rfl (ze rfl) (J4 hlow_3 rfl rfl rfl (gb9 rfl rfl rfl (Ze 9 rfl rfl (fun _=>rfl) ZA)))))
  refine au 2 ?_
  refine X.opR rfl (v:=(ovl 4 l5)) (by rcases X.Yv (z:=true) 4 l5 with h0 | ⟨n0,h0⟩ <;> simp only [h0] <;> rfl) rfl ?_
  refine X.opR rfl (X.lenN (l:=l5) rfl rfl rfl) rfl ?_
  obtain ⟨x2,h_16,hM⟩:=Q5 hM
  refine au 2 ?_
  refine GS.seq ?_
  refine X.mid [(42,(V.b ((decide (0<(l5.length:Int)))&&(decide ((w64 (x2.Hi+1))=Lo2))))),(9,(V.ptr 1 0 0)),(10,(V.ptr 5 0 0)),(11,(V.i (l5.length:Int)))] ?_ ?_
  ·intro hg
   refine X.split (decide (0<(l5.length:Int))) (fun h_17=>?_) (fun h_17=>?_)
   ·refine au 4 ?_
    refine X.cop (X.on_t rfl rfl rfl h_17) (v:=(ovl 4 l5)) (by rcases X.Yv (z:=true) 4 l5 with h0 | ⟨n0,h0⟩ <;> simp only [h0] <;> rfl) rfl rfl ?_
    refine au 2 ?_
    refine X.cop (X.on_t rfl rfl rfl h_17) (X.zE5 (h_16 h_17) rfl rfl rfl rfl rfl) rfl rfl ?_
    refine au 1 ?_
    refine X.cop (X.on_t rfl rfl rfl h_17) (X.zOH (h_16 h_17) rfl rfl rfl rfl) rfl rfl ?_
    refine au 7 ?_
    exact X.ng hg rfl (by simp only [h_17,X.bb])
   refine au 17 ?_
   exact X.ng hg rfl (by simp only [h_17,X.bb])
  refine X.cm hM (fun h_18 hM=>?_) (fun h_18 hM=>?_)
  ·obtain ⟨x3,h_19,hM⟩:=zF hM
   refine GS.region ?_
   refine X.opR rfl (v:=(ovl 4 l5)) (by rcases X.Yv (z:=true) 4 l5 with h0 | ⟨n0,h0⟩ <;> simp only [h0] <;> rfl) rfl ?_
   refine au 5 ?_
   refine X.opR rfl (X.zE5 h_19 rfl rfl rfl rfl rfl) rfl (X.q rfl ?_)
   refine X.op0W (H':=[.rows 1 [(V.i height)],.rows 1 [(ovl 4 l5)],lr R_3 .busy none,.rows 3 [(V.agg [(V.i Lo2),(V.i Hi1),(V.i Height2)])],obl 2 zI (put l5 (w64 ((l5.length:Int) - 1)) (⟨x3.Lo,Hi1⟩:zC)),.rows 3 [(V.agg [(V.i Lo2),(V.i Hi1),(V.i Height2)])]]) rfl (X.zC2 (b:=(⟨x3.Lo,Hi1⟩:zC)) h_19 rfl rfl rfl rfl rfl rfl rfl) rfl ?_
   refine au 2 ?_
   refine GS.nil ⟨_,rfl,?_⟩
   refine X.norm (H':=[.rows 1 [(V.i height)],.rows 1 [(ovl 4 l5)],lr R_3 .ready none,.rows 3 [(V.agg [(V.i Lo2),(V.i Hi1),(V.i Height2)])],obl 2 zI (put l5 (w64 ((l5.length:Int) - 1)) (⟨x3.Lo,Hi1⟩:zC)),.rows 3 [(V.agg [(V.i Lo2),(V.i Hi1),(V.i Height2)])]]) [(0,(V.yld 2)),(2,(V.fptr [(zI ((ZI w s).2))] 0 0)),(4,(V.fn 99 [(V.fptr [(zY y1.1)] 0 0),(V.fptr [(Y2 y1.2)] 0 0)])),(5,(V.ptr 3 0 0)),(6,(V.i t)),(7,(V.i y3)),(41,(V.b true))] ?_ rfl (sr rfl)
   refine au 2 ?_
   refine GS.zCF rfl ?_
   refine au 7 ?_
   refine X.op0W (H':=[.rows 1 [(V.i height)],.rows 1 [(ovl 4 l5)],lr R_3 .ready none,.rows 3 [(V.agg [(V.i t),(V.i t),(V.i y3)])],obl 2 zI (put l5 (w64 ((l5.length:Int) - 1)) (⟨x3.Lo,Hi1⟩:zC)),.rows 3 [(V.agg [(V.i Lo2),(V.i Hi1),(V.i Height2)])]]) rfl rfl rfl ?_
   refine au 2 ?_
   exact X.gc [some 3,some 4] (hj_3 (t,y3,(put l5 (w64 ((l5.length:Int) - 1)) (⟨x3.Lo,Hi1⟩:zC))) hM) rfl rfl rfl (ga rfl rfl) (gb9 rfl rfl rfl (jI rfl rfl (qp X.zG5 (ze rfl)) (J4 hlow_3 rfl rfl rfl (gb9 rfl rfl rfl (Ze 9 rfl rfl (fun _=>rfl) ZA)))))
  obtain ⟨l3,h_20,hM⟩:=zF hM
  refine GS.region ?_
  refine X.opR rfl (v:=(ovl 4 l5)) (by rcases X.Yv (z:=true) 4 l5 with h0 | ⟨n0,h0⟩ <;> simp only [h0] <;> rfl) rfl ?_
  refine au 2 ?_
  refine X.opW (H':=[.rows 1 [(V.i height)],.rows 1 [(ovl 4 l5)],lr R_3 .busy none,.rows 3 [(V.agg [(V.i Lo2),(V.i Hi1),(V.i Height2)])],obl 2 zI l5,.rows 3 [(V.agg [(V.i Lo2),(V.i Hi1),(V.i Height2)])],.rows 2 (List.map zI ([(⟨Lo2,Hi1⟩:zC)]))]) rfl rfl rfl rfl ?_
  refine X.appN (f:=zI) h_20 (fun _=>rfl) (by rfl) (by rfl) (by rfl) (by rfl) (by rfl) (by rfl) (by rfl) (by rfl) (by rfl) (by rfl) (by rfl) (by exact rfl) (by rfl) (by rfl) ?_
  refine X.op0W (H':=[.rows 1 [(V.i height)],.rows 1 [(V.osl 7 0 (List.length l3))],lr R_3 .busy none,.rows 3 [(V.agg [(V.i Lo2),(V.i Hi1),(V.i Height2)])],.dead,.rows 3 [(V.agg [(V.i Lo2),(V.i Hi1),(V.i Height2)])],.rows 2 (List.map zI ([(⟨Lo2,Hi1⟩:zC)])),.rows 2 (List.map zI l3)]) rfl (v:=jF) (wr:=[(1,.rows 1 [(V.osl 7 0 (List.length l3))])]) (by rcases X.Yv (z:=true) 4 l5 with h0 | ⟨n0,h0⟩ <;> simp only [h0] <;> rfl) rfl ?_
  refine au 2 ?_
  refine GS.nil ⟨_,rfl,?_⟩
  refine X.norm (H':=[.rows 1 [(V.i height)],.rows 1 [(V.osl 7 0 (List.length l3))],lr R_3 .ready none,.rows 3 [(V.agg [(V.i Lo2),(V.i Hi1),(V.i Height2)])],.dead,.rows 3 [(V.agg [(V.i Lo2),(V.i Hi1),(V.i Height2)])],.rows 2 (List.map zI ([(⟨Lo2,Hi1⟩:zC)])),.rows 2 (List.map zI l3)]) [(0,(V.yld 2)),(2,(V.fptr [(zI ((ZI w s).2))] 0 0)),(4,(V.fn 99 [(V.fptr [(zY y1.1)] 0 0),(V.fptr [(Y2 y1.2)] 0 0)])),(5,(V.ptr 3 0 0)),(6,(V.i t)),(7,(V.i y3)),(41,(V.b true))] ?_ rfl (sr rfl)
  refine au 2 ?_
  refine GS.zCF rfl ?_
  refine au 7 ?_
  refine X.op0W (H':=[.rows 1 [(V.i height)],.rows 1 [(V.osl 7 0 (List.length l3))],lr R_3 .ready none,.rows 3 [(V.agg [(V.i t),(V.i t),(V.i y3)])],.dead,.rows 3 [(V.agg [(V.i Lo2),(V.i Hi1),(V.i Height2)])],.rows 2 (List.map zI ([(⟨Lo2,Hi1⟩:zC)])),.rows 2 (List.map zI l3)]) rfl rfl rfl ?_
  refine au 2 ?_
  exact X.gc [some 3,some 7] (hj_3 (t,y3,l3) hM) rfl rfl rfl (ga rfl rfl) (gb9 rfl rfl rfl (jI rfl rfl (zAa (Z6 h_20) rfl) (J4 hlow_3 rfl rfl rfl (gb9 rfl rfl rfl (gb_obl' 9 (Z6 h_20) rfl rfl (fun _=>rfl) ZA)))))
 obtain ⟨y_1,hM,hy⟩:=zz hM
 rw [hr_1 _ hy.symm] at hM
 refine au 1 ?_
 exact X.gc [some 3,some 4] (hj_1 (Lo2,Hi1,Height2,l5) hM) rfl rfl rfl (ga rfl rfl) (gb9 rfl rfl rfl (jI rfl rfl (ze rfl) (J4 hlow_3 rfl rfl rfl (gb9 rfl rfl rfl (Ze 9 rfl rfl (fun _=>rfl) ZA)))))
theorem zDw {h:zG} {id:Int} {draught:Int} {s:zC} {r:Int×Bool×Int} (hM:qh h id draught s=some r):Ct Tryz.prog 16 [(zD h),(V.i id),(V.i draught),(zI s)] (V.tup [(V.i r.1),(V.b r.2.1),(V.i r.2.2)]):=by
 refine zP zl rfl ?_
 unfold qh at hM
 obtain ⟨y,h_1,hM⟩:=zF hM
 refine au 10 ?_
 refine X.ca (QJ h_1) ?_
 refine au 6 ?_
 refine X.cm hM (fun h_2 hM=>?_) (fun h_2 hM=>?_)
 ·refine au 6 ?_
  cases hM
  exact X.rt
 obtain ⟨y1,h_3,hM⟩:=zF hM
 refine au 5 ?_
 refine X.ca (Zg h_3) ?_
 refine au 7 ?_
 refine X.cm hM (fun h_4 hM=>?_) (fun h_4 hM=>?_)
 ·refine au 5 ?_
  cases hM
  exact X.rt
 refine au 3 ?_
 refine X.mid [(33,(V.b ((!(zu draught 0 8000))||(!(JI s))))),(2,(V.i draught)),(4,(V.ptr 0 0 0)),(7,(V.ptr 1 0 0)),(12,(V.i y1))] ?_ ?_
 ·intro hg
  refine X.split (!(zu draught 0 8000)) (fun h_5=>?_) (fun h_5=>?_)
  ·refine X.q rfl ?_
   refine X.ca (ZF draught 0 8000) ?_
   refine au 7 ?_
   exact X.ng hg rfl (by simp only [h_5,X.bb])
  refine X.q rfl ?_
  refine X.ca (ZF draught 0 8000) ?_
  refine au 3 ?_
  refine X.ca (zB2 s) ?_
  refine au 3 ?_
  exact X.ng hg rfl (by simp only [h_5,X.bb])
 refine X.cm hM (fun h_6 hM=>?_) (fun h_6 hM=>?_)
 ·refine au 5 ?_
  cases hM
  exact X.rt
 obtain ⟨x,h_7,hM⟩:=zF hM
 obtain ⟨y2,h_8,hM⟩:=zF hM
 refine au 13 ?_
 refine X.cca (zDV h x draught) ?_
 refine X.cca (zDU h_8) ?_
 refine au 6 ?_
 refine X.norm [(7,(V.ptr 1 0 0)),(13,(V.sl (List.map zI y2.1))),(14,(V.i y2.2))] ?_ rfl (sr rfl)
 refine au 7 ?_
 refine X.cm hM (fun h_9 hM=>?_) (fun h_9 hM=>?_)
 ·refine au 6 ?_
  cases hM
  exact X.rt
 obtain ⟨x1,h_10,hM⟩:=Q5 hM
 refine GS.seq ?_
 refine X.mid [(53,(V.b ((decide ((y2.1.length:Int)=0))||(decide (s.Lo<x1.Lo))))),(7,(V.ptr 1 0 0)),(13,(V.sl (List.map zI y2.1)))] ?_ ?_
 ·intro hg
  refine X.split (decide ((y2.1.length:Int)=0)) (fun h_11=>?_) (fun h_11=>?_)
  ·refine au 15 ?_
   exact X.ng hg rfl (by simp only [h_11,X.bb])
  refine au 6 ?_
  refine X.cop (X.on_f rfl rfl rfl h_11) (X.Zh (f:=zI) (h_10 (X.nt h_11)) (fun _=>rfl) rfl rfl rfl rfl) rfl rfl ?_
  refine au 1 ?_
  refine X.cop (X.on_f rfl rfl rfl h_11) (X.JA (h_10 (X.nt h_11)) rfl rfl rfl) rfl rfl ?_
  refine au 6 ?_
  exact X.ng hg rfl (by simp only [h_11,X.bb])
 refine X.cm hM (fun h_12 hM=>?_) (fun h_12 hM=>?_)
 ·refine au 7 ?_
  cases hM
  exact X.rt
 obtain ⟨x2,h_13,hM⟩:=zF hM
 refine au 11 ?_
 refine X.norm [(13,(V.sl (List.map zI y2.1))),(68,(V.b (decide (x2.Hi<s.Hi))))] ?_ rfl (sr rfl)
 refine X.cm hM (fun h_14 hM=>?_) (fun h_14 hM=>?_)
 ·obtain ⟨x3,h_15,hM⟩:=zF hM
  refine au 10 ?_
  cases hM
  exact X.rt
 refine au 7 ?_
 cases hM
 exact X.rt
theorem Qc {n:Int} {r:(List zJ)} (hM:ja n=some r):Ct Tryz.prog 18 [(V.i n)] (V.sl (List.map zH r)):=by
 refine zP zl rfl ?_
 unfold ja at hM
 refine au 10 ?_
 refine X.join (τ:=(List zJ)) (fun v=>Qe v=some r) (fun v=>⟨[(3,(ovl 0 v))],[obl 5 zH v],0,none,17⟩) ?_ ?_
 ·intro l hM
  replace hM:Qe l=some r:=hM
  unfold Qe at hM
  refine au 4 ?_
  have hE:=Option.some.inj hM
  subst hE
  exact GS.ret ⟨_,rfl,FR.ovl (f:=zH) (l:=l) 9 rfl rfl (fun _=>rfl)⟩
 intro hj_1
 refine au 1 ?_
 refine X.gx [none] (X.loop (σ:=(Int×(List zJ))) (fun v=>⟨[(0,(V.i n)),(3,(ovl 0 v.2)),(4,(V.i v.1))],[obl 5 zH v.2],0,none,17⟩) hM ?_ rfl)
 rintro ⟨i,l2⟩ b_1 hM hc_2 hr_1
 rw [zCq] at hM
 refine au 6 ?_
 refine X.cm hM (fun h_1 hM=>?_) (fun h_1 hM=>?_)
 ·obtain ⟨l1,h_2,hM⟩:=zF hM
  refine au 9 ?_
  refine X.appN (f:=zH) h_2 (fun _=>rfl) (by rfl) (by rfl) (by rfl) (by rfl) (by rfl) (by rfl) (by rfl) (by rfl) (by rfl) (by rfl) (by rfl) (by exact rfl) (by rfl) (by rfl) ?_
  refine au 8 ?_
  have hE:=Option.some.inj hM
  exact X.gc [some 2] (hc_2 (w64 (i+1),l1) hE.symm) rfl rfl rfl (zM rfl ⟨9,rfl⟩ (zM rfl (zAa (Z6 h_2) rfl) (ga rfl rfl))) (gb_obl' 9 (Z6 h_2) rfl rfl (fun _=>rfl) ZA)
 obtain ⟨y_1,hM,hy⟩:=zz hM
 rw [hr_1 _ hy.symm] at hM
 refine au 1 ?_
 exact X.gy [some 0] (hj_1 l2 hM) (zM rfl (ze rfl) zD8)
theorem zDv (c:zJ):Ct Tryz.prog 47 [(zH c)] (V.b (QN c)):=by
 refine zP zl rfl ?_
 generalize hM:QN c=r
 unfold QN at hM
 refine au 5 ?_
 refine X.mid [(2,(V.b ((((((zu c.ID 1 1099511627776)&&(zu c.Draught 0 8000))&&(decide (0≤c.From)))&&(decide (c.From≤c.To)))&&(decide (c.To≤1048576)))&&(zu c.Long 1 1440))))] ?_ ?_
 ·intro hg
  refine X.split ((zu c.ID 1 1099511627776)) (fun h_1=>?_) (fun h_1=>?_)
  ·refine X.split ((zu c.Draught 0 8000)) (fun h_2=>?_) (fun h_2=>?_)
   ·refine X.split (decide (0≤c.From)) (fun h_3=>?_) (fun h_3=>?_)
    ·refine X.split (decide (c.From≤c.To)) (fun h_4=>?_) (fun h_4=>?_)
     ·refine X.split (decide (c.To≤1048576)) (fun h_5=>?_) (fun h_5=>?_)
      ·refine au 2 ?_
       refine X.ca (ZF c.ID 1 1099511627776) ?_
       refine au 3 ?_
       refine X.ca (ZF c.Draught 0 8000) ?_
       refine au 21 ?_
       refine X.ca (ZF c.Long 1 1440) ?_
       refine au 3 ?_
       exact X.ng hg rfl (by simp only [h_1,h_2,h_3,h_4,h_5,X.bb])
      refine au 2 ?_
      refine X.ca (ZF c.ID 1 1099511627776) ?_
      refine au 3 ?_
      refine X.ca (ZF c.Draught 0 8000) ?_
      refine au 25 ?_
      exact X.ng hg rfl (by simp only [h_1,h_2,h_3,h_4,h_5,X.bb])
     refine au 2 ?_
     refine X.ca (ZF c.ID 1 1099511627776) ?_
     refine au 3 ?_
     refine X.ca (ZF c.Draught 0 8000) ?_
     refine au 25 ?_
     exact X.ng hg rfl (by simp only [h_1,h_2,h_3,h_4,X.bb])
    refine au 2 ?_
    refine X.ca (ZF c.ID 1 1099511627776) ?_
    refine au 3 ?_
    refine X.ca (ZF c.Draught 0 8000) ?_
    refine au 25 ?_
    exact X.ng hg rfl (by simp only [h_1,h_2,h_3,X.bb])
   refine au 2 ?_
   refine X.ca (ZF c.ID 1 1099511627776) ?_
   refine au 3 ?_
   refine X.ca (ZF c.Draught 0 8000) ?_
   refine au 25 ?_
   exact X.ng hg rfl (by simp only [h_1,h_2,X.bb])
  refine au 2 ?_
  refine X.ca (ZF c.ID 1 1099511627776) ?_
  refine au 29 ?_
  exact X.ng hg rfl (by simp only [h_1,X.bb])
 subst hM
 exact X.rt
theorem zEc {h:zG} {x:zB} {r:zT×Bool} (hM:zDL h x=some r):Ct Tryz.prog 48 [(zD h),(zA x)] (V.tup [(zQ r.1),(V.b r.2)]):=by
 refine zP zl rfl ?_
 unfold zDL at hM
 obtain ⟨y,h_1,hM⟩:=zF hM
 refine au 11 ?_
 refine X.ca (Zg h_1) ?_
 refine au 4 ?_
 refine X.mid [(23,(V.b ((decide (y<0))||(!(zu x.Tide 0 (w64 ((h.Tides.length:Int) - 1))))))),(2,(V.ptr 0 0 0)),(4,(V.ptr 2 0 0)),(6,(V.i y))] ?_ ?_
 ·intro hg
  refine X.split (decide (y<0)) (fun h_2=>?_) (fun h_2=>?_)
  ·refine au 13 ?_
   exact X.ng hg rfl (by simp only [h_2,X.bb])
  refine au 9 ?_
  refine X.ca (ZF x.Tide 0 (w64 ((h.Tides.length:Int) - 1))) ?_
  refine au 3 ?_
  exact X.ng hg rfl (by simp only [h_2,X.bb])
 refine X.cm hM (fun h_3 hM=>?_) (fun h_3 hM=>?_)
 ·refine au 2 ?_
  refine X.op0W rfl rfl rfl ?_
  refine au 2 ?_
  cases hM
  exact X.rt
 obtain ⟨x1,h_4,hM⟩:=zF hM
 refine au 7 ?_
 refine X.op0W rfl rfl rfl ?_
 refine au 2 ?_
 cases hM
 exact X.rt
theorem zJ1 {w:zO} {s:zC} {height:Int} {long:Int} {r:zC×Int} (hM:zCe w s height long=some r):Ct Tryz.prog 74 [(zY w),(zI s),(V.i height),(V.i long)] (V.tup [(zI r.1),(V.i r.2)]):=by
 refine zP zl rfl ?_
 unfold zCe at hM
 obtain ⟨y,h_1,hM⟩:=zF hM
 refine au 10 ?_
 refine X.ca (zDU h_1) ?_
 refine au 11 ?_
 refine X.cm hM (fun h_2 hM=>?_) (fun h_2 hM=>?_)
 ·refine au 3 ?_
  refine X.op0W rfl rfl rfl ?_
  refine au 2 ?_
  cases hM
  exact X.rt
 refine au 6 ?_
 refine X.cm hM (fun h_3 hM=>?_) (fun h_3 hM=>?_)
 ·refine au 2 ?_
  refine X.op0W rfl rfl rfl ?_
  refine au 2 ?_
  cases hM
  exact X.rt
 refine au 7 ?_
 refine X.join (τ:=Unit) (fun v=>zBc=some r) (fun v=>⟨[(8,(V.ptr 0 0 0))],[.rows 2 [(V.agg [(V.i 0),(V.i 0)])]],0,none,45⟩) ?_ ?_
 ·intro _ hM
  replace hM:zBc=some r:=hM
  unfold zBc at hM
  refine au 2 ?_
  refine X.op0W rfl rfl rfl ?_
  refine au 2 ?_
  cases hM
  exact X.rt
 intro hj_1
 refine au 1 ?_
 refine X.gx [some 2] (X.loop (σ:=Int) (fun v=>⟨[(3,(V.i long)),(8,(V.ptr 0 0 0)),(28,(V.sl (List.map zI y.1))),(29,(V.i (y.1.length:Int))),(30,(V.i v))],[.rows 2 [(V.agg [(V.i 0),(V.i 0)])]],0,none,45⟩) hM ?_ rfl)
 intro x1 b_1 hM hc_2 hr_1
 rw [zBd] at hM
 refine au 3 ?_
 refine GS.seq ?_
 refine X.cm hM (fun h_4 hM=>?_) (fun h_4 hM=>?_)
 ·obtain ⟨x,h_5,hM⟩:=zF hM
  refine au 7 ?_
  refine X.op0W rfl rfl rfl ?_
  refine au 11 ?_
  refine X.cm hM (fun h_6 hM=>?_) (fun h_6 hM=>?_)
  ·refine au 2 ?_
   refine X.op0W rfl rfl rfl ?_
   refine au 2 ?_
   have hE:=Option.some.inj hM
   replace hE:=hr_1 _ hE.symm
   subst hE
   exact X.rt
  refine au 6 ?_
  have hE:=Option.some.inj hM
  exact X.gx [some 0] (hc_2 (w64 (x1+1)) hE.symm)
 obtain ⟨y_1,hM,hy⟩:=zz hM
 rw [hr_1 _ hy.symm] at hM
 refine au 1 ?_
 exact X.gx [some 0] (hj_1 () hM)
theorem zCY {h:zG} {c:zJ} {x:zB} {b:zT} {r:zC×Bool} (hM:qU h c x b=some r):Ct Tryz.prog 49 [(zD h),(zH c),(zA x),(zQ b)] (V.tup [(zI r.1),(V.b r.2)]):=by
 refine zP zl rfl ?_
 unfold qU at hM
 refine au 4 ?_
 refine X.opW (H':=[.rows 6 [(zD h)],.rows 5 [(zH c)],.rows 2 [(zA x)],.rows 2 [(zQ b)]]) rfl rfl rfl rfl ?_
 refine X.opW (H':=[.rows 6 [(zD h)],.rows 5 [(zH c)],.rows 2 [(zA x)],.rows 2 [(zQ b)],.rows 2 [(V.agg [(V.i 0),(V.i 0)])]]) rfl rfl rfl rfl ?_
 obtain ⟨x1,h_1,hM⟩:=zF hM
 refine au 9 ?_
 refine X.opW (H':=[.rows 6 [(zD h)],.rows 5 [(zH c)],.rows 2 [(zA x)],.rows 2 [(zQ b)],.rows 2 [(V.agg [(V.i 0),(V.i 0)])],.rows 2 [(V.agg [(V.i 0),(V.i 0)])]]) rfl rfl rfl rfl ?_
 refine X.op0W (H':=[.rows 6 [(zD h)],.rows 5 [(zH c)],.rows 2 [(zA x)],.rows 2 [(zQ b)],.rows 2 [(V.agg [(V.i 0),(V.i 0)])],.rows 2 [(zI x1)]]) rfl rfl rfl ?_
 refine au 13 ?_
 refine X.opW (H':=[.rows 6 [(zD h)],.rows 5 [(zH c)],.rows 2 [(zA x)],.rows 2 [(zQ b)],.rows 2 [(V.agg [(V.i 0),(V.i 0)])],.rows 2 [(zI x1)],.rows 2 [(V.agg [(V.i 0),(V.i 0)])]]) rfl rfl rfl rfl ?_
 refine X.op0W (H':=[.rows 6 [(zD h)],.rows 5 [(zH c)],.rows 2 [(zA x)],.rows 2 [(zQ b)],.rows 2 [(V.agg [(V.i 0),(V.i 0)])],.rows 2 [(zI x1)],.rows 2 [(V.agg [(V.i (max x1.Lo c.From)),(V.i (min x1.Hi c.To))])]]) rfl rfl rfl ?_
 refine au 9 ?_
 refine X.cm hM (fun h_2 hM=>?_) (fun h_2 hM=>?_)
 ·refine au 2 ?_
  refine X.op0W (H':=[.rows 6 [(zD h)],.rows 5 [(zH c)],.rows 2 [(zA x)],.rows 2 [(zQ b)],.rows 2 [(V.agg [(V.i 0),(V.i 0)])],.rows 2 [(zI x1)],.rows 2 [(V.agg [(V.i (max x1.Lo c.From)),(V.i (min x1.Hi c.To))])]]) rfl rfl rfl ?_
  refine au 2 ?_
  cases hM
  exact X.rt
 obtain ⟨y,h_3,hM⟩:=zF hM
 refine GS.skip (GS.seq ?_)
 refine X.draw (by kernel_rfl) ?_
 refine au 7 ?_
 refine X.dca (zDV h b c.Draught) ?_
 refine au 2 ?_
 refine X.dca (zJ1 h_3) ?_
 refine au 4 ?_
 refine X.dop0 rfl rfl rfl rfl (by kernel_rfl) rfl ?_
 refine au 2 ?_
 refine X.norm [(5,(V.ptr 1 0 0)),(8,(V.ptr 4 0 0)),(12,(V.ptr 7 0 0)),(13,(V.i y.2))] ?_ rfl (sr rfl)
 refine au 5 ?_
 refine X.cm hM (fun h_4 hM=>?_) (fun h_4 hM=>?_)
 ·refine au 2 ?_
  refine X.op0W (H':=[.rows 6 [(zD h)],.rows 5 [(zH c)],.rows 2 [(zA x)],.rows 2 [(zQ b)],.rows 2 [(V.agg [(V.i 0),(V.i 0)])],.rows 2 [(zI x1)],.rows 2 [(V.agg [(V.i (max x1.Lo c.From)),(V.i (min x1.Hi c.To))])],.rows 2 [(zI y.1)]]) rfl rfl rfl ?_
  refine au 2 ?_
  cases hM
  exact X.rt
 refine au 11 ?_
 refine X.op0W (H':=[.rows 6 [(zD h)],.rows 5 [(zH c)],.rows 2 [(zA x)],.rows 2 [(zQ b)],.rows 2 [(V.agg [(V.i y.1.Lo),(V.i (w64 ((w64 (y.1.Lo+c.Long)) - 1)))])],.rows 2 [(zI x1)],.rows 2 [(V.agg [(V.i (max x1.Lo c.From)),(V.i (min x1.Hi c.To))])],.rows 2 [(zI y.1)]]) rfl rfl rfl ?_
 refine au 2 ?_
 cases hM
 exact X.rt
theorem zIz {h:zG} {c:zJ} {x:zB} {r:zC×Bool×Int} (hM:zDM h c x=some r):Ct Tryz.prog 17 [(zD h),(zH c),(zA x)] (V.tup [(zI r.1),(V.b r.2.1),(V.i r.2.2)]):=by
 refine zP zl rfl ?_
 unfold zDM at hM
 refine au 4 ?_
 refine X.opW (H':=[.rows 6 [(zD h)],.rows 5 [(zH c)],.rows 2 [(zA x)],.rows 2 [(V.agg [(V.i 0),(V.i 0)])]]) rfl rfl rfl rfl ?_
 obtain ⟨y,h_1,hM⟩:=zF hM
 refine au 6 ?_
 refine X.ca (QJ h_1) ?_
 refine au 6 ?_
 refine X.cm hM (fun h_2 hM=>?_) (fun h_2 hM=>?_)
 ·refine au 3 ?_
  refine X.op0W (H':=[.rows 6 [(zD h)],.rows 5 [(zH c)],.rows 2 [(zA x)],.rows 2 [(V.agg [(V.i 0),(V.i 0)])]]) rfl rfl rfl ?_
  refine au 3 ?_
  cases hM
  exact X.rt
 refine au 4 ?_
 refine X.ca (zDv c) ?_
 refine au 2 ?_
 refine X.cm hM (fun h_3 hM=>?_) (fun h_3 hM=>?_)
 ·refine au 2 ?_
  refine X.op0W (H':=[.rows 6 [(zD h)],.rows 5 [(zH c)],.rows 2 [(zA x)],.rows 2 [(V.agg [(V.i 0),(V.i 0)])]]) rfl rfl rfl ?_
  refine au 3 ?_
  cases hM
  exact X.rt
 obtain ⟨y1,h_4,hM⟩:=zF hM
 refine au 4 ?_
 refine X.ca (zEc h_4) ?_
 refine au 3 ?_
 refine X.opW (H':=[.rows 6 [(zD h)],.rows 5 [(zH c)],.rows 2 [(zA x)],.rows 2 [(V.agg [(V.i 0),(V.i 0)])],.rows 2 [(V.agg [(V.i 0),(V.i 0)])]]) rfl rfl rfl rfl ?_
 refine X.op0W (H':=[.rows 6 [(zD h)],.rows 5 [(zH c)],.rows 2 [(zA x)],.rows 2 [(V.agg [(V.i 0),(V.i 0)])],.rows 2 [(zQ y1.1)]]) rfl rfl rfl ?_
 refine au 7 ?_
 refine X.cm hM (fun h_5 hM=>?_) (fun h_5 hM=>?_)
 ·refine au 2 ?_
  refine X.op0W (H':=[.rows 6 [(zD h)],.rows 5 [(zH c)],.rows 2 [(zA x)],.rows 2 [(V.agg [(V.i 0),(V.i 0)])],.rows 2 [(zQ y1.1)]]) rfl rfl rfl ?_
  refine au 3 ?_
  cases hM
  exact X.rt
 obtain ⟨y2,h_6,hM⟩:=zF hM
 refine au 6 ?_
 refine X.ca (zCY h_6) ?_
 refine au 3 ?_
 refine X.opW (H':=[.rows 6 [(zD h)],.rows 5 [(zH c)],.rows 2 [(zA x)],.rows 2 [(V.agg [(V.i 0),(V.i 0)])],.rows 2 [(zQ y1.1)],.rows 2 [(V.agg [(V.i 0),(V.i 0)])]]) rfl rfl rfl rfl ?_
 refine X.op0W (H':=[.rows 6 [(zD h)],.rows 5 [(zH c)],.rows 2 [(zA x)],.rows 2 [(V.agg [(V.i 0),(V.i 0)])],.rows 2 [(zQ y1.1)],.rows 2 [(zI y2.1)]]) rfl rfl rfl ?_
 refine au 5 ?_
 refine X.op0W (H':=[.rows 6 [(zD h)],.rows 5 [(zH c)],.rows 2 [(zA x)],.rows 2 [(zI y2.1)],.rows 2 [(zQ y1.1)],.rows 2 [(zI y2.1)]]) rfl rfl rfl ?_
 refine au 3 ?_
 cases hM
 exact X.rt
theorem zCm {draught:Int} {c:zG} {c1:Int} {c2:zB} {c3:zT} {r:Bool} (hM:zA1 draught c c1 c2 c3=some r):Ct Tryz.prog 50 [(V.i draught),(V.fptr [(zD c)] 0 0),(V.fptr [(V.i c1)] 0 0),(V.fptr [(zA c2)] 0 0),(V.fptr [(zQ c3)] 0 0)] (V.b r):=by
 refine zP zl rfl ?_
 unfold zA1 at hM
 obtain ⟨y,h_1,hM⟩:=zF hM
 refine au 10 ?_
 refine X.ca (zCY h_1) ?_
 refine au 4 ?_
 refine X.op0W rfl rfl rfl ?_
 refine au 6 ?_
 cases hM
 exact X.rt
theorem zHt {h:zG} {x:zB} {long:Int} {r:Int×Int} (hM:zCR h x long=some r):Ct Tryz.prog 19 [(zD h),(zA x),(V.i long)] (V.tup [(V.i r.1),(V.i r.2)]):=by
 refine zP zl rfl ?_
 unfold zCR at hM
 obtain ⟨y,h_1,hM⟩:=zF hM
 refine au 10 ?_
 refine X.ca (QJ h_1) ?_
 refine au 6 ?_
 refine X.cm hM (fun h_2 hM=>?_) (fun h_2 hM=>?_)
 ·refine au 5 ?_
  cases hM
  exact X.rt
 obtain ⟨y1,h_3,hM⟩:=zF hM
 refine au 4 ?_
 refine X.ca (zEc h_3) ?_
 refine au 3 ?_
 refine X.opW (H':=[.rows 6 [(zD h)],.rows 2 [(zA x)],.rows 1 [(V.i long)],.rows 2 [(V.agg [(V.i 0),(V.i 0)])]]) rfl rfl rfl rfl ?_
 refine X.op0W (H':=[.rows 6 [(zD h)],.rows 2 [(zA x)],.rows 1 [(V.i long)],.rows 2 [(zQ y1.1)]]) rfl rfl rfl ?_
 refine au 9 ?_
 refine X.cm hM (fun h_4 hM=>?_) (fun h_4 hM=>?_)
 ·refine au 4 ?_
  cases hM
  exact X.rt
 refine au 2 ?_
 refine X.ca (ZF long 1 1440) ?_
 refine au 3 ?_
 refine X.cm hM (fun h_5 hM=>?_) (fun h_5 hM=>?_)
 ·refine au 4 ?_
  cases hM
  exact X.rt
 obtain ⟨y2,h_6,hM⟩:=zF hM
 refine au 9 ?_
 refine X.zCG (zCm h_6) rfl rfl rfl (m:=9) rfl (.cons (.shut (n:=9) rfl) (.cons (FR.arg ⟨30,rfl⟩) (.cons (FR.arg ⟨30,rfl⟩) (.cons (FR.arg ⟨30,rfl⟩) (.cons (FR.arg ⟨30,rfl⟩) .nil))))) ?_
 refine au 2 ?_
 refine X.cm hM (fun h_7 hM=>?_) (fun h_7 hM=>?_)
 ·refine au 4 ?_
  cases hM
  exact X.rt
 refine au 5 ?_
 refine GS.seq ?_
 refine X.join (τ:=Int) (fun v=>zAV v=some r) (fun v=>⟨[(12,(V.i v))],[],0,none,52⟩) ?_ ?_
 ·intro lo hM
  replace hM:zAV lo=some r:=hM
  unfold zAV at hM
  refine au 5 ?_
  cases hM
  exact X.rt
 intro hj_1
 refine au 1 ?_
 refine X.gx [some 0,some 2,some 1,some 3] (X.loop (σ:=(Int×Int)) (fun v=>⟨[(11,(V.fn 50 [(V.ptr 0 0 0),(V.ptr 1 0 0),(V.ptr 2 0 0),(V.ptr 3 0 0)])),(12,(V.i v.1)),(13,(V.i v.2))],[.rows 6 [(zD h)],.rows 1 [(V.i long)],.rows 2 [(zA x)],.rows 2 [(zQ y1.1)]],0,none,52⟩) hM ?_ rfl)
 rintro ⟨lo2,hi1⟩ b_1 hM hc_2 hr_1
 rw [zEE] at hM
 refine au 6 ?_
 refine X.cm hM (fun h_8 hM=>?_) (fun h_8 hM=>?_)
 ·refine GS.skip ?_
  refine X.join (τ:=Int×Int) (fun v=>QT v.1 v.2=some b_1) (fun v=>⟨[(11,(V.fn 50 [(V.ptr 0 0 0),(V.ptr 1 0 0),(V.ptr 2 0 0),(V.ptr 3 0 0)])),(12,(V.i v.1)),(13,(V.i v.2))],[.rows 6 [(zD h)],.rows 1 [(V.i long)],.rows 2 [(zA x)],.rows 2 [(zQ y1.1)]],0,none,52⟩) ?_ ?_
  ·rintro ⟨lo1,hi⟩ hM
   replace hM:QT lo1 hi=some b_1:=hM
   unfold QT at hM
   have hE:=Option.some.inj hM
   exact X.gx [some 0,some 1,some 2,some 3] (hc_2 (lo1,hi) hE.symm)
  intro hj_3
  obtain ⟨q,h_9,hM⟩:=zF hM
  refine au 6 ?_
  refine X.opR rfl (X.quoE h_9 rfl rfl) rfl ?_
  obtain ⟨y3,h_10,hM⟩:=zF hM
  refine au 5 ?_
  refine X.zCG (zCm h_10) rfl rfl rfl (m:=9) rfl (.cons (.shut (n:=9) rfl) (.cons (FR.arg ⟨30,rfl⟩) (.cons (FR.arg ⟨30,rfl⟩) (.cons (FR.arg ⟨30,rfl⟩) (.cons (FR.arg ⟨30,rfl⟩) .nil))))) ?_
  refine GS.zV ?_
  refine X.cm hM (fun h_11 hM=>?_) (fun h_11 hM=>?_)
  ·refine au 5 ?_
   exact X.gx [some 0,some 1,some 2,some 3] (hj_3 (q,hi1) hM)
  refine au 6 ?_
  exact X.gx [some 0,some 1,some 2,some 3] (hj_3 (lo2,w64 (q - 1)) hM)
 obtain ⟨y_1,hM,hy⟩:=zz hM
 rw [hr_1 _ hy.symm] at hM
 refine au 1 ?_
 exact X.gx [] (hj_1 lo2 hM)
theorem zG2 (c:zJ):Ct Tryz.prog 32 [(zH c)] (V.i (zAR c)):=by
 refine zP zl rfl ?_
 generalize hM:zAR c=r
 unfold zAR at hM
 refine au 9 ?_
 subst hM
 exact X.rt
theorem Y4 (x:zJ) (c:Int):Ct Tryz.prog 64 [(zH x),(V.fptr [(V.fn 32 [])] 0 0),(V.fptr [(V.i c)] 0 0)] (V.b (Zr x c)):=by
 refine zP zl rfl ?_
 generalize hM:Zr x c=r
 unfold Zr at hM
 refine au 8 ?_
 refine X.cca (zG2 x) ?_
 refine au 4 ?_
 refine X.norm [(4,(V.b (decide ((zAR x)=c))))] ?_ rfl (sr rfl)
 subst hM
 exact X.rt
theorem jT {s:(List zJ)} {c:Int} {r:Int} (hM:zo s c=some r):Ct Tryz.prog 63 [(V.sl (List.map zH s)),(V.fn 64 [(V.fptr [(V.fn 32 [])] 0 0),(V.fptr [(V.i c)] 0 0)])] (V.i r):=by
 refine zP zl rfl ?_
 unfold zo at hM
 refine au 9 ?_
 refine X.join (τ:=Unit) (fun v=>zh=some r) (fun v=>⟨[],[],0,none,19⟩) ?_ ?_
 ·intro _ hM
  replace hM:zh=some r:=hM
  unfold zh at hM
  refine au 3 ?_
  cases hM
  exact X.rt
 intro hj_1
 refine au 1 ?_
 refine X.gx [] (X.loop (σ:=Int) (fun v=>⟨[(0,(V.sl (List.map zH s))),(1,(V.fn 64 [(V.fptr [(V.fn 32 [])] 0 0),(V.fptr [(V.i c)] 0 0)])),(7,(V.i (s.length:Int))),(8,(V.i v))],[],0,none,19⟩) hM ?_ rfl)
 intro x1 b_1 hM hc_2 hr_1
 rw [za] at hM
 refine au 3 ?_
 refine GS.seq ?_
 refine X.cm hM (fun h_1 hM=>?_) (fun h_1 hM=>?_)
 ·obtain ⟨x,h_2,hM⟩:=zF hM
  refine au 13 ?_
  refine X.ca (Y4 x c) ?_
  refine GS.zV ?_
  refine X.cm hM (fun h_3 hM=>?_) (fun h_3 hM=>?_)
  ·refine au 4 ?_
   have hE:=Option.some.inj hM
   replace hE:=hr_1 _ hE.symm
   subst hE
   exact X.rt
  refine au 6 ?_
  have hE:=Option.some.inj hM
  exact X.gx [] (hc_2 (w64 (x1+1)) hE.symm)
 obtain ⟨y_1,hM,hy⟩:=zz hM
 rw [hr_1 _ hy.symm] at hM
 refine au 1 ?_
 exact X.gx [] (hj_1 () hM)
theorem jH {l:(List zJ)} {id:Int} {r:Int} (hM:zx l id=some r):Ct Tryz.prog 31 [(V.sl (List.map zH l)),(V.i id),(V.fn 32 [])] (V.i r):=by
 refine zP zl rfl ?_
 unfold zx at hM
 obtain ⟨y,h_1,hM⟩:=zF hM
 refine au 8 ?_
 refine X.zCG (jT h_1) rfl rfl rfl (m:=9) rfl (.cons (.shut (n:=9) rfl) (.cons (FR.arg ⟨30,rfl⟩) .nil)) ?_
 refine au 2 ?_
 cases hM
 exact X.rt
theorem yg {h:zG} {l:(List zJ)} {r:Int} (hM:Z4 h l=some r):Ct Tryz.prog 21 [(zD h),(V.sl (List.map zH l))] (V.i r):=by
 refine zP zl rfl ?_
 unfold Z4 at hM
 obtain ⟨y,h_1,hM⟩:=zF hM
 refine au 7 ?_
 refine X.ca (QJ h_1) ?_
 refine au 6 ?_
 refine X.cm hM (fun h_2 hM=>?_) (fun h_2 hM=>?_)
 ·refine au 4 ?_
  cases hM
  exact X.rt
 refine au 7 ?_
 refine X.cm hM (fun h_3 hM=>?_) (fun h_3 hM=>?_)
 ·refine au 3 ?_
  cases hM
  exact X.rt
 refine au 7 ?_
 refine X.join (τ:=Unit) (fun v=>yt=some r) (fun v=>⟨[],[],0,none,33⟩) ?_ ?_
 ·intro _ hM
  replace hM:yt=some r:=hM
  unfold yt at hM
  refine au 3 ?_
  cases hM
  exact X.rt
 intro hj_1
 refine au 1 ?_
 refine X.gx [] (X.loop (σ:=Int) (fun v=>⟨[(1,(V.sl (List.map zH l))),(16,(V.sl (List.map zH l))),(17,(V.i (l.length:Int))),(18,(V.i v))],[],0,none,33⟩) hM ?_ rfl)
 intro x1 b_1 hM hc_2 hr_1
 rw [yu] at hM
 refine au 3 ?_
 refine GS.seq ?_
 refine X.cm hM (fun h_4 hM=>?_) (fun h_4 hM=>?_)
 ·obtain ⟨x,h_5,hM⟩:=zF hM
  refine au 9 ?_
  refine X.op0W rfl rfl rfl ?_
  refine au 4 ?_
  refine X.ca (zDv x) ?_
  refine au 2 ?_
  refine X.cm hM (fun h_6 hM=>?_) (fun h_6 hM=>?_)
  ·refine au 3 ?_
   have hE:=Option.some.inj hM
   replace hE:=hr_1 _ hE.symm
   subst hE
   exact X.rt
  obtain ⟨y1,h_7,hM⟩:=zF hM
  refine au 5 ?_
  refine X.ca (jH h_7) ?_
  refine au 3 ?_
  refine X.cm hM (fun h_8 hM=>?_) (fun h_8 hM=>?_)
  ·refine au 3 ?_
   have hE:=Option.some.inj hM
   replace hE:=hr_1 _ hE.symm
   subst hE
   exact X.rt
  refine au 6 ?_
  have hE:=Option.some.inj hM
  exact X.gx [] (hc_2 (w64 (x1+1)) hE.symm)
 obtain ⟨y_1,hM,hy⟩:=zz hM
 rw [hr_1 _ hy.symm] at hM
 refine au 1 ?_
 exact X.gx [] (hj_1 () hM)
abbrev ZM (x:ZO):V:=.agg [(V.i x.Call),(V.i x.Slot.Tide),(V.i x.Slot.Berth),(V.i x.Span.Lo),(V.i x.Span.Hi)]
theorem zDu (h:zG):Ct Tryz.prog 52 [(zD h)] (V.fn 76 [(V.fptr [(zD (zU h))] 0 0)]):=by
 refine zP zl rfl ?_
 generalize hM:zU h=r
 unfold zU at hM
 refine au 8 ?_
 subst hM
 exact X.rt
theorem Qf (a b:zB):zBW (zA a) (zA b)=some (decide (a=b)):=by
 have h:zBW (zA a) (zA b)=some (decide ([(IntKind.i64,a.Tide),(IntKind.i64,a.Berth)]=[(IntKind.i64,b.Tide),(IntKind.i64,b.Berth)])):=rfl
 rw [h]
 congr 1
 cases a
 cases b
 simp
set_option maxHeartbeats 4000000 in
theorem zHr {h:zG} {c:zJ} {r:(List zB)×(List (zB×zC))} (hM:zBM h c=some r):Ct Tryz.prog 53 [(zD h),(zH c)] (V.tup [(V.sl (List.map zA r.1)),(V.fmap (List.map (fun p:zB×zC=>zA p.1) r.2) (List.map (fun p:zB×zC=>zI p.2) r.2))]):=by
 refine zP zl rfl ?_
 unfold zBM at hM
 refine au 10 ?_
 refine X.opW (H':=[.rows 6 [(zD h)],.rows 5 [(zH c)],.rows 1 [V.nil],.map (List.map (fun p:zB×zC=>zA p.1) []) (List.map (fun p:zB×zC=>zI p.2) [])]) rfl rfl rfl rfl ?_
 refine X.opW (H':=[.rows 6 [(zD h)],.rows 5 [(zH c)],.rows 1 [V.nil],.map (List.map (fun p:zB×zC=>zA p.1) []) (List.map (fun p:zB×zC=>zI p.2) []),.rows 1 [(V.lit (.map none))]]) rfl rfl rfl rfl ?_
 refine X.op0W (H':=[.rows 6 [(zD h)],.rows 5 [(zH c)],.rows 1 [V.nil],.map (List.map (fun p:zB×zC=>zA p.1) []) (List.map (fun p:zB×zC=>zI p.2) []),.rows 1 [(V.map 3)]]) rfl rfl rfl ?_
 refine au 4 ?_
 refine X.ca (zDu h) ?_
 refine au 2 ?_
 refine X.gc [some 0,some 1,some 2,some 4,some 3] (H':=[.rows 6 [(zD h)],.rows 5 [(zH c)],.rows 1 [V.nil],.rows 1 [(V.map 4)],.map (List.map (fun p:zB×zC=>zA p.1) []) (List.map (fun p:zB×zC=>zI p.2) [])]) (K':=[(2,(V.ptr 0 0 0)),(3,(V.ptr 1 0 0)),(6,(V.ptr 2 0 0)),(7,(V.ptr 3 0 0)),(14,(V.fn 76 [(V.fptr [(zD (zU h))] 0 0)]))]) ?_ rfl rfl rfl (ga rfl rfl) (gb9 rfl rfl rfl (gb9 rfl rfl rfl (gb9 rfl rfl rfl (gb9 rfl rfl rfl (X.ZR 9 rfl rfl (fun _=>rfl) (fun _=>rfl) ZA)))))
 refine X.range rfl rfl (yA ⟨9,rfl⟩ (yA ⟨9,rfl⟩ (yA ⟨9,rfl⟩ (yA ⟨9,rfl⟩ (yA ⟨9,rfl⟩ zH7))))) rfl ?_
 intro R_1 hrn_1 hrK_1 hrp_1 hra_1 hrb_1 hlow_1
 refine au 7 ?_
 refine X.gc [none] (X.loop (σ:=(Int×(List zB)×(List (zB×zC)))) (fun v=>⟨[(0,(V.yld 5)),(1,(V.fptr [(zD (zU h))] 0 0)),(8,(V.i (((zU h).Tides).length:Int))),(9,(V.i v.1))],[.rows 6 [(zD h)],.rows 5 [(zH c)],.rows 1 [(ovl 6 v.2.1)],.rows 1 [(V.map 4)],.map (List.map (fun p:zB×zC=>zA p.1) v.2.2) (List.map (fun p:zB×zC=>zI p.2) v.2.2),lr R_1 .ready none,obl 2 zA v.2.1],0,none,29⟩) hM ?_ rfl) rfl rfl rfl (ga rfl rfl) (gb9 rfl rfl rfl (gb9 rfl rfl rfl (gb9 rfl rfl rfl (gb9 rfl rfl rfl (X.ZR 9 rfl rfl (fun _=>rfl) (fun _=>rfl) (J4 hlow_1 rfl rfl rfl (gb_pad' rfl ZA)))))))
 rintro ⟨x2,l2,m1⟩ b_1 hM hc_1 hr_1
 rw [zAQ] at hM
 refine au 3 ?_
 refine GS.seq ?_
 refine X.cm hM (fun h_2 hM=>?_) (fun h_2 hM=>?_)
 ·refine au 13 ?_
  refine X.join (τ:=(List zB)×(List (zB×zC))) (fun v=>QL x2 v.1 v.2=some b_1) (fun v=>⟨[(0,(V.yld 5)),(1,(V.fptr [(zD (zU h))] 0 0)),(8,(V.i (((zU h).Tides).length:Int))),(9,(V.i x2))],[.rows 6 [(zD h)],.rows 5 [(zH c)],.rows 1 [(ovl 6 v.1)],.rows 1 [(V.map 4)],.map (List.map (fun p:zB×zC=>zA p.1) v.2) (List.map (fun p:zB×zC=>zI p.2) v.2),lr R_1 .ready none,obl 2 zA v.1],0,none,29⟩) ?_ ?_
  ·rintro ⟨l,m⟩ hM
   replace hM:QL x2 l m=some b_1:=hM
   unfold QL at hM
   refine au 5 ?_
   have hE:=Option.some.inj hM
   exact X.gc [some 6] (hc_1 (w64 (x2+1),l,m) hE.symm) rfl rfl rfl (ga rfl rfl) (gb9 rfl rfl rfl (gb9 rfl rfl rfl (jI rfl rfl (ze rfl) (gb9 rfl rfl rfl (X.ZR 9 rfl rfl (fun _=>rfl) (fun _=>rfl) (J4 hlow_1 rfl rfl rfl (Ze 9 rfl rfl (fun _=>rfl) ZA)))))))
  intro hj_2
  refine au 1 ?_
  refine X.gc [some 6] (X.loop (σ:=(Int×(List zB)×(List (zB×zC)))) (fun v=>⟨[(0,(V.yld 5)),(1,(V.fptr [(zD (zU h))] 0 0)),(3,(V.i x2)),(8,(V.i (((zU h).Tides).length:Int))),(9,(V.i x2)),(13,(V.sl (List.map zQ ((zU h).Berths)))),(14,(V.i (((zU h).Berths).length:Int))),(15,(V.i v.1))],[.rows 6 [(zD h)],.rows 5 [(zH c)],.rows 1 [(ovl 6 v.2.1)],.rows 1 [(V.map 4)],.map (List.map (fun p:zB×zC=>zA p.1) v.2.2) (List.map (fun p:zB×zC=>zI p.2) v.2.2),lr R_1 .ready none,obl 2 zA v.2.1],0,none,29⟩) hM ?_ rfl) rfl rfl rfl (ga rfl rfl) (gb9 rfl rfl rfl (gb9 rfl rfl rfl (jI rfl rfl (ze rfl) (gb9 rfl rfl rfl (X.ZR 9 rfl rfl (fun _=>rfl) (fun _=>rfl) (J4 hlow_1 rfl rfl rfl (Ze 9 rfl rfl (fun _=>rfl) ZA)))))))
  rintro ⟨x1,l3,m2⟩ b_2 hM hc_3 hr_2
  rw [QM] at hM
  refine au 3 ?_
  refine GS.seq ?_
  refine X.cm hM (fun h_3 hM=>?_) (fun h_3 hM=>?_)
  ·obtain ⟨x,h_4,hM⟩:=zF hM
   refine au 6 ?_
   refine X.opW (H':=[.rows 6 [(zD h)],.rows 5 [(zH c)],.rows 1 [(ovl 6 l3)],.rows 1 [(V.map 4)],.map (List.map (fun p:zB×zC=>zA p.1) m2) (List.map (fun p:zB×zC=>zI p.2) m2),lr R_1 .ready none,obl 2 zA l3,.rows 2 [(V.agg [(V.i 0),(V.i 0)])]]) rfl rfl rfl rfl ?_
   refine X.op0W (H':=[.rows 6 [(zD h)],.rows 5 [(zH c)],.rows 1 [(ovl 6 l3)],.rows 1 [(V.map 4)],.map (List.map (fun p:zB×zC=>zA p.1) m2) (List.map (fun p:zB×zC=>zI p.2) m2),lr R_1 .ready none,obl 2 zA l3,.rows 2 [(zQ x)]]) rfl rfl rfl ?_
   refine au 8 ?_
   refine X.yld hrn_1 hrK_1 hrp_1 hra_1 hrb_1 rfl rfl rfl rfl rfl rfl ?_
   refine X.sq ?_
   refine X.opW (H':=[.rows 6 [(zD h)],.rows 5 [(zH c)],.rows 1 [(ovl 6 l3)],.rows 1 [(V.map 4)],.map (List.map (fun p:zB×zC=>zA p.1) m2) (List.map (fun p:zB×zC=>zI p.2) m2),lr R_1 .ready none,obl 2 zA l3,.rows 2 [(zQ x)],.rows 2 [(V.agg [(V.i 0),(V.i 0)])]]) rfl rfl rfl rfl ?_
   refine X.op0W (H':=[.rows 6 [(zD h)],.rows 5 [(zH c)],.rows 1 [(ovl 6 l3)],.rows 1 [(V.map 4)],.map (List.map (fun p:zB×zC=>zA p.1) m2) (List.map (fun p:zB×zC=>zI p.2) m2),lr R_1 .ready none,obl 2 zA l3,.rows 2 [(zQ x)],.rows 2 [(V.agg [(V.i x2),(V.i x.ID)])]]) rfl rfl rfl ?_
   refine au 2 ?_
   refine X.opW (H':=[.rows 6 [(zD h)],.rows 5 [(zH c)],.rows 1 [(ovl 6 l3)],.rows 1 [(V.map 4)],.map (List.map (fun p:zB×zC=>zA p.1) m2) (List.map (fun p:zB×zC=>zI p.2) m2),lr R_1 .ready none,obl 2 zA l3,.rows 2 [(zQ x)],.rows 2 [(V.agg [(V.i x2),(V.i x.ID)])],.rows 2 [(V.agg [(V.i 0),(V.i 0)])]]) rfl rfl rfl rfl ?_
   refine X.op0W (H':=[.rows 6 [(zD h)],.rows 5 [(zH c)],.rows 1 [(ovl 6 l3)],.rows 1 [(V.map 4)],.map (List.map (fun p:zB×zC=>zA p.1) m2) (List.map (fun p:zB×zC=>zI p.2) m2),lr R_1 .ready none,obl 2 zA l3,.rows 2 [(zQ x)],.rows 2 [(V.agg [(V.i x2),(V.i x.ID)])],.rows 2 [(zQ x)]]) rfl rfl rfl ?_
   refine GS.zV ?_
   refine GS.nil (X.begin' rfl rfl ?_ rfl)
   obtain ⟨y,h_5,hM⟩:=zF hM
   refine au 6 ?_
   refine X.ca (zCY h_5) ?_
   refine au 3 ?_
   refine X.opW (H':=[.rows 6 [(zD h)],.rows 5 [(zH c)],.rows 1 [(ovl 6 l3)],.rows 1 [(V.map 4)],.map (List.map (fun p:zB×zC=>zA p.1) m2) (List.map (fun p:zB×zC=>zI p.2) m2),lr R_1 .busy none,obl 2 zA l3,.rows 2 [(zQ x)],.rows 2 [(V.agg [(V.i x2),(V.i x.ID)])],.rows 2 [(zQ x)],.rows 2 [(V.agg [(V.i 0),(V.i 0)])]]) rfl rfl rfl rfl ?_
   refine X.op0W (H':=[.rows 6 [(zD h)],.rows 5 [(zH c)],.rows 1 [(ovl 6 l3)],.rows 1 [(V.map 4)],.map (List.map (fun p:zB×zC=>zA p.1) m2) (List.map (fun p:zB×zC=>zI p.2) m2),lr R_1 .busy none,obl 2 zA l3,.rows 2 [(zQ x)],.rows 2 [(V.agg [(V.i x2),(V.i x.ID)])],.rows 2 [(zQ x)],.rows 2 [(zI y.1)]]) rfl rfl rfl ?_
   refine au 5 ?_
   refine X.cm hM (fun h_6 hM=>?_) (fun h_6 hM=>?_)
   ·obtain ⟨l1,h_7,hM⟩:=zF hM
    refine X.sq ?_
    refine X.opR rfl (v:=(ovl 6 l3)) (by rcases X.Yv (z:=true) 6 l3 with h0 | ⟨n0,h0⟩ <;> simp only [h0] <;> rfl) rfl (X.q rfl ?_)
    refine X.opW (H':=[.rows 6 [(zD h)],.rows 5 [(zH c)],.rows 1 [(ovl 6 l3)],.rows 1 [(V.map 4)],.map (List.map (fun p:zB×zC=>zA p.1) m2) (List.map (fun p:zB×zC=>zI p.2) m2),lr R_1 .busy none,obl 2 zA l3,.rows 2 [(zQ x)],.rows 2 [(V.agg [(V.i x2),(V.i x.ID)])],.rows 2 [(zQ x)],.rows 2 [(zI y.1)],.rows 2 (List.map zA ([(⟨x2,x.ID⟩:zB)]))]) rfl rfl rfl rfl ?_
    refine X.appN (f:=zA) h_7 (fun _=>rfl) (by rfl) (by rfl) (by rfl) (by rfl) (by rfl) (by rfl) (by rfl) (by rfl) (by rfl) (by rfl) (by rfl) (by exact rfl) (by rfl) (by rfl) ?_
    refine X.op0W (H':=[.rows 6 [(zD h)],.rows 5 [(zH c)],.rows 1 [(V.osl 12 0 (List.length l1))],.rows 1 [(V.map 4)],.map (List.map (fun p:zB×zC=>zA p.1) m2) (List.map (fun p:zB×zC=>zI p.2) m2),lr R_1 .busy none,.dead,.rows 2 [(zQ x)],.rows 2 [(V.agg [(V.i x2),(V.i x.ID)])],.rows 2 [(zQ x)],.rows 2 [(zI y.1)],.rows 2 (List.map zA ([(⟨x2,x.ID⟩:zB)])),.rows 2 (List.map zA l1)]) rfl (v:=jF) (wr:=[(2,.rows 1 [(V.osl 12 0 (List.length l1))])]) (by rcases X.Yv (z:=true) 6 l3 with h0 | ⟨n0,h0⟩ <;> simp only [h0] <;> rfl) rfl ?_
    refine au 5 ?_
    refine X.op0W (H':=[.rows 6 [(zD h)],.rows 5 [(zH c)],.rows 1 [(V.osl 12 0 (List.length l1))],.rows 1 [(V.map 4)],.map (List.map (fun p:zB×zC=>zA p.1) (putM posE m2 (⟨x2,x.ID⟩:zB) y.1)) (List.map (fun p:zB×zC=>zI p.2) (putM posE m2 (⟨x2,x.ID⟩:zB) y.1)),lr R_1 .busy none,.dead,.rows 2 [(zQ x)],.rows 2 [(V.agg [(V.i x2),(V.i x.ID)])],.rows 2 [(zQ x)],.rows 2 [(zI y.1)],.rows 2 (List.map zA ([(⟨x2,x.ID⟩:zB)])),.rows 2 (List.map zA l1)]) rfl (X.putW (f:=zA) (g:=zI) (pos:=posE) (k:=(⟨x2,x.ID⟩:zB)) (v:=y.1) (l:=m2) Qf (fun l=>(X.zNL _ _).trans (List.length_map ..)) rfl rfl rfl rfl rfl rfl rfl) rfl ?_
    refine au 2 ?_
    refine GS.nil ⟨_,rfl,?_⟩
    refine X.norm (H':=[.rows 6 [(zD h)],.rows 5 [(zH c)],.rows 1 [(V.osl 12 0 (List.length l1))],.rows 1 [(V.map 4)],.map (List.map (fun p:zB×zC=>zA p.1) (putM posE m2 (⟨x2,x.ID⟩:zB) y.1)) (List.map (fun p:zB×zC=>zI p.2) (putM posE m2 (⟨x2,x.ID⟩:zB) y.1)),lr R_1 .ready none,.dead,.rows 2 [(zQ x)],.rows 2 [(V.agg [(V.i x2),(V.i x.ID)])],.rows 2 [(zQ x)],.rows 2 [(zI y.1)],.rows 2 (List.map zA ([(⟨x2,x.ID⟩:zB)])),.rows 2 (List.map zA l1)]) [(0,(V.yld 5)),(1,(V.fptr [(zD (zU h))] 0 0)),(3,(V.i x2)),(8,(V.i (((zU h).Tides).length:Int))),(9,(V.i x2)),(13,(V.sl (List.map zQ ((zU h).Berths)))),(14,(V.i (((zU h).Berths).length:Int))),(15,(V.i x1)),(25,(V.b true))] ?_ rfl (sr rfl)
    refine au 2 ?_
    refine GS.zCF rfl ?_
    refine au 6 ?_
    have hE:=Option.some.inj hM
    exact X.gc [some 12] (hc_3 (w64 (x1+1),l1,(putM posE m2 (⟨x2,x.ID⟩:zB) y.1)) hE.symm) rfl rfl rfl (ga rfl rfl) (gb9 rfl rfl rfl (gb9 rfl rfl rfl (jI rfl rfl (zAa (Z6 h_7) rfl) (gb9 rfl rfl rfl (X.ZR 9 rfl rfl (fun _=>rfl) (fun _=>rfl) (J4 hlow_1 rfl rfl rfl (gb_obl' 9 (Z6 h_7) rfl rfl (fun _=>rfl) ZA)))))))
   refine au 2 ?_
   refine GS.nil ⟨_,rfl,?_⟩
   refine X.norm (H':=[.rows 6 [(zD h)],.rows 5 [(zH c)],.rows 1 [(ovl 6 l3)],.rows 1 [(V.map 4)],.map (List.map (fun p:zB×zC=>zA p.1) m2) (List.map (fun p:zB×zC=>zI p.2) m2),lr R_1 .ready none,obl 2 zA l3,.rows 2 [(zQ x)],.rows 2 [(V.agg [(V.i x2),(V.i x.ID)])],.rows 2 [(zQ x)],.rows 2 [(zI y.1)]]) [(0,(V.yld 5)),(1,(V.fptr [(zD (zU h))] 0 0)),(3,(V.i x2)),(8,(V.i (((zU h).Tides).length:Int))),(9,(V.i x2)),(13,(V.sl (List.map zQ ((zU h).Berths)))),(14,(V.i (((zU h).Berths).length:Int))),(15,(V.i x1)),(25,(V.b true))] ?_ rfl (sr rfl)
   refine au 2 ?_
   refine GS.zCF rfl ?_
   refine au 6 ?_
   have hE:=Option.some.inj hM
   exact X.gc [some 6] (hc_3 (w64 (x1+1),l3,m2) hE.symm) rfl rfl rfl (ga rfl rfl) (gb9 rfl rfl rfl (gb9 rfl rfl rfl (jI rfl rfl (ze rfl) (gb9 rfl rfl rfl (X.ZR 9 rfl rfl (fun _=>rfl) (fun _=>rfl) (J4 hlow_1 rfl rfl rfl (Ze 9 rfl rfl (fun _=>rfl) ZA)))))))
  obtain ⟨y_2,hM,hy⟩:=zz hM
  rw [hr_2 _ hy.symm] at hM
  refine au 1 ?_
  exact X.gc [some 6] (hj_2 (l3,m2) hM) rfl rfl rfl (ga rfl rfl) (gb9 rfl rfl rfl (gb9 rfl rfl rfl (jI rfl rfl (ze rfl) (gb9 rfl rfl rfl (X.ZR 9 rfl rfl (fun _=>rfl) (fun _=>rfl) (J4 hlow_1 rfl rfl rfl (Ze 9 rfl rfl (fun _=>rfl) ZA)))))))
 refine au 1 ?_
 refine GS.nil ⟨_,_,rfl,rfl,?_⟩
 refine X.norm (H':=[.rows 6 [(zD h)],.rows 5 [(zH c)],.rows 1 [(ovl 6 l2)],.rows 1 [(V.map 4)],.map (List.map (fun p:zB×zC=>zA p.1) m1) (List.map (fun p:zB×zC=>zI p.2) m1),.dead,obl 2 zA l2]) [(2,(V.ptr 0 0 0)),(3,(V.ptr 1 0 0)),(6,(V.ptr 2 0 0)),(7,(V.ptr 3 0 0)),(14,(V.fn 76 [(V.fptr [(zD (zU h))] 0 0)]))] ?_ rfl (sr rfl)
 refine au 3 ?_
 refine X.cop rfl (v:=(ovl 6 l2)) (by rcases X.Yv (z:=true) 6 l2 with h0 | ⟨n0,h0⟩ <;> simp only [h0] <;> rfl) rfl rfl ?_
 refine au 4 ?_
 refine X.norm [(4,(ovl 6 l2)),(5,(V.map 4))] ?_ rfl (sr rfl)
 have hE:=Option.some.inj hM
 replace hE:=hr_1 _ hE.symm
 subst hE
 exact GS.ret ⟨_,rfl,FR.tup (.cons (FR.ovl (f:=zA) (l:=l2) 9 rfl rfl (fun _=>rfl)) (.cons (X.frMap (f:=zA) (g:=zI) (pa:=fun p=>p.1) (pb:=fun p=>p.2) (l:=m1) 9 rfl rfl (fun _=>rfl) (fun _=>rfl)) .nil))⟩
abbrev zN (x:zL):V:=.agg [(V.sl (List.map zH x.calls)),(V.sl (List.map zA x.slots)),(V.sl (List.map (fun l=>V.fmap (List.map (fun p=>zA p.1) l) (List.map (fun p=>zI p.2) l)) x.can)),(V.sl (List.map V.i x.old))]
set_option maxHeartbeats 4000000 in
theorem zAu {h:zG} {l:(List zJ)} {r:zL} (hM:yN h l=some r):Ct Tryz.prog 22 [(zD h),(V.sl (List.map zH l))] (V.fptr [(zN r)] 0 0):=by
 refine zP zl rfl ?_
 unfold yN at hM
 refine au 9 ?_
 refine X.op0W rfl rfl rfl ?_
 refine au 4 ?_
 refine X.ca (zDu h) ?_
 refine au 2 ?_
 refine X.gc [some 0,some 2,some 1] (H':=[.rows 6 [(zD h)],.rows 1 [(V.ptr 2 0 0)],.rows 4 [(V.agg [(V.sl (List.map zH l)),V.nil,V.nil,V.nil])]]) (K':=[(1,(V.sl (List.map zH l))),(2,(V.ptr 0 0 0)),(5,(V.ptr 1 0 0)),(15,(V.fn 76 [(V.fptr [(zD (zU h))] 0 0)]))]) ?_ rfl rfl rfl (ga rfl rfl) (gb9 rfl rfl rfl (gb9 rfl rfl rfl (gb9 rfl rfl rfl ZA)))
 refine X.range rfl rfl (yA ⟨9,rfl⟩ (yA ⟨9,rfl⟩ (yA ⟨9,rfl⟩ (yA ⟨9,rfl⟩ zH7)))) rfl ?_
 intro R_1 hrn_1 hrK_1 hrp_1 hra_1 hrb_1 hlow_1
 refine au 7 ?_
 refine X.gc [none] (X.loop (σ:=(Int×(List zB))) (fun v=>⟨[(0,(V.yld 3)),(1,(V.fptr [(zD (zU h))] 0 0)),(8,(V.i (((zU h).Tides).length:Int))),(9,(V.i v.1))],[.rows 6 [(zD h)],.rows 1 [(V.ptr 2 0 0)],.rows 4 [(V.agg [(V.sl (List.map zH l)),(ovl 4 v.2),V.nil,V.nil])],lr R_1 .ready none,obl 2 zA v.2],0,none,29⟩) hM ?_ rfl) rfl rfl rfl (ga rfl rfl) (gb9 rfl rfl rfl (gb9 rfl rfl rfl (gb9 rfl rfl rfl (J4 hlow_1 rfl rfl rfl (gb_pad' rfl ZA)))))
 rintro ⟨x4,l10⟩ b_1 hM hc_1 hr_1
 rw [zAz] at hM
 refine au 3 ?_
 refine GS.seq ?_
 refine X.cm hM (fun h_2 hM=>?_) (fun h_2 hM=>?_)
 ·refine au 13 ?_
  refine X.join (τ:=(List zB)) (fun v=>Q9 x4 v=some b_1) (fun v=>⟨[(0,(V.yld 3)),(1,(V.fptr [(zD (zU h))] 0 0)),(8,(V.i (((zU h).Tides).length:Int))),(9,(V.i x4))],[.rows 6 [(zD h)],.rows 1 [(V.ptr 2 0 0)],.rows 4 [(V.agg [(V.sl (List.map zH l)),(ovl 4 v),V.nil,V.nil])],lr R_1 .ready none,obl 2 zA v],0,none,29⟩) ?_ ?_
  ·intro l1 hM
   replace hM:Q9 x4 l1=some b_1:=hM
   unfold Q9 at hM
   refine au 5 ?_
   have hE:=Option.some.inj hM
   exact X.gc [some 4] (hc_1 (w64 (x4+1),l1) hE.symm) rfl rfl rfl (ga rfl rfl) (gb9 rfl rfl rfl (gb9 rfl rfl rfl (jI rfl rfl (J7 (.cons ⟨9,rfl⟩ (.cons (ze rfl) (.cons ⟨9,rfl⟩ (.cons ⟨9,rfl⟩ .nil))))) (J4 hlow_1 rfl rfl rfl (Ze 9 rfl rfl (fun _=>rfl) ZA)))))
  intro hj_2
  refine au 1 ?_
  refine X.gc [some 4] (X.loop (σ:=(Int×(List zB))) (fun v=>⟨[(0,(V.yld 3)),(1,(V.fptr [(zD (zU h))] 0 0)),(3,(V.i x4)),(8,(V.i (((zU h).Tides).length:Int))),(9,(V.i x4)),(13,(V.sl (List.map zQ ((zU h).Berths)))),(14,(V.i (((zU h).Berths).length:Int))),(15,(V.i v.1))],[.rows 6 [(zD h)],.rows 1 [(V.ptr 2 0 0)],.rows 4 [(V.agg [(V.sl (List.map zH l)),(ovl 4 v.2),V.nil,V.nil])],lr R_1 .ready none,obl 2 zA v.2],0,none,29⟩) hM ?_ rfl) rfl rfl rfl (ga rfl rfl) (gb9 rfl rfl rfl (gb9 rfl rfl rfl (jI rfl rfl (J7 (.cons ⟨9,rfl⟩ (.cons (ze rfl) (.cons ⟨9,rfl⟩ (.cons ⟨9,rfl⟩ .nil))))) (J4 hlow_1 rfl rfl rfl (Ze 9 rfl rfl (fun _=>rfl) ZA)))))
  rintro ⟨x1,l3⟩ b_2 hM hc_3 hr_2
  rw [qA] at hM
  refine au 3 ?_
  refine GS.seq ?_
  refine X.cm hM (fun h_3 hM=>?_) (fun h_3 hM=>?_)
  ·obtain ⟨x,h_4,hM⟩:=zF hM
   refine au 6 ?_
   refine X.opW (H':=[.rows 6 [(zD h)],.rows 1 [(V.ptr 2 0 0)],.rows 4 [(V.agg [(V.sl (List.map zH l)),(ovl 4 l3),V.nil,V.nil])],lr R_1 .ready none,obl 2 zA l3,.rows 2 [(V.agg [(V.i 0),(V.i 0)])]]) rfl rfl rfl rfl ?_
   refine X.op0W (H':=[.rows 6 [(zD h)],.rows 1 [(V.ptr 2 0 0)],.rows 4 [(V.agg [(V.sl (List.map zH l)),(ovl 4 l3),V.nil,V.nil])],lr R_1 .ready none,obl 2 zA l3,.rows 2 [(zQ x)]]) rfl rfl rfl ?_
   refine au 8 ?_
   refine X.yld hrn_1 hrK_1 hrp_1 hra_1 hrb_1 rfl rfl rfl rfl rfl rfl ?_
   refine GS.region ?_
   refine X.opW (H':=[.rows 6 [(zD h)],.rows 1 [(V.ptr 2 0 0)],.rows 4 [(V.agg [(V.sl (List.map zH l)),(ovl 4 l3),V.nil,V.nil])],lr R_1 .ready none,obl 2 zA l3,.rows 2 [(zQ x)],.rows 2 [(V.agg [(V.i 0),(V.i 0)])]]) rfl rfl rfl rfl ?_
   refine X.op0W (H':=[.rows 6 [(zD h)],.rows 1 [(V.ptr 2 0 0)],.rows 4 [(V.agg [(V.sl (List.map zH l)),(ovl 4 l3),V.nil,V.nil])],lr R_1 .ready none,obl 2 zA l3,.rows 2 [(zQ x)],.rows 2 [(V.agg [(V.i x4),(V.i x.ID)])]]) rfl rfl rfl ?_
   refine GS.zV ?_
   refine GS.nil (X.begin' rfl rfl ?_ rfl)
   obtain ⟨l2,h_5,hM⟩:=zF hM
   refine au 1 ?_
   refine X.draw (by kernel_rfl) ?_
   refine au 7 ?_
   refine X.zIV (f:=zA) h_5 (fun _=>rfl) (by rfl) (by rfl) (by rfl) (by rfl) (by rfl) (by rfl) (by rfl) (by rfl) (by rfl) (by rfl) (by rfl) (by exact rfl) (by rfl) (by rfl) (by kernel_rfl) (by rfl) (by rfl) ?_
   refine au 2 ?_
   refine X.dop0 rfl rfl rfl rfl (by kernel_rfl) rfl ?_
   refine au 1 ?_
   refine X.norm [] ?_ rfl W.zMQ
   refine au 1 ?_
   refine GS.nil ⟨_,rfl,?_⟩
   refine X.norm (H':=[.rows 6 [(zD h)],.rows 1 [(V.ptr 2 0 0)],.rows 4 [(V.agg [(V.sl (List.map zH l)),(V.osl 8 0 (List.length l2)),V.nil,V.nil])],lr R_1 .ready none,.dead,.rows 2 [(zQ x)],.rows 2 [(V.agg [(V.i x4),(V.i x.ID)])],.rows 2 (List.map zA ([(⟨x4,x.ID⟩:zB)])),.rows 2 (List.map zA l2)]) [(0,(V.yld 3)),(1,(V.fptr [(zD (zU h))] 0 0)),(3,(V.i x4)),(8,(V.i (((zU h).Tides).length:Int))),(9,(V.i x4)),(13,(V.sl (List.map zQ ((zU h).Berths)))),(14,(V.i (((zU h).Berths).length:Int))),(15,(V.i x1)),(25,(V.b true))] ?_ rfl (sr rfl)
   refine au 2 ?_
   refine GS.zCF rfl ?_
   refine au 6 ?_
   have hE:=Option.some.inj hM
   exact X.gc [some 8] (hc_3 (w64 (x1+1),l2) hE.symm) rfl rfl rfl (ga rfl rfl) (gb9 rfl rfl rfl (gb9 rfl rfl rfl (jI rfl rfl (J7 (.cons ⟨9,rfl⟩ (.cons (zAa (Z6 h_5) rfl) (.cons ⟨9,rfl⟩ (.cons ⟨9,rfl⟩ .nil))))) (J4 hlow_1 rfl rfl rfl (gb_obl' 9 (Z6 h_5) rfl rfl (fun _=>rfl) ZA)))))
  obtain ⟨y_2,hM,hy⟩:=zz hM
  rw [hr_2 _ hy.symm] at hM
  refine au 1 ?_
  exact X.gc [some 4] (hj_2 l3 hM) rfl rfl rfl (ga rfl rfl) (gb9 rfl rfl rfl (gb9 rfl rfl rfl (jI rfl rfl (J7 (.cons ⟨9,rfl⟩ (.cons (ze rfl) (.cons ⟨9,rfl⟩ (.cons ⟨9,rfl⟩ .nil))))) (J4 hlow_1 rfl rfl rfl (Ze 9 rfl rfl (fun _=>rfl) ZA)))))
 refine au 1 ?_
 refine GS.nil ⟨_,_,rfl,rfl,?_⟩
 refine X.norm (H':=[.rows 6 [(zD h)],.rows 1 [(V.ptr 2 0 0)],.rows 4 [(V.agg [(V.sl (List.map zH l)),(ovl 4 l10),V.nil,V.nil])],.dead,obl 2 zA l10]) [(1,(V.sl (List.map zH l))),(2,(V.ptr 0 0 0)),(5,(V.ptr 1 0 0)),(15,(V.fn 76 [(V.fptr [(zD (zU h))] 0 0)]))] ?_ rfl (sr rfl)
 refine au 7 ?_
 refine X.join (τ:=(List (List (zB×zC)))×(List Int)) (fun v=>Q8 l l10 v.1 v.2=some b_1) (fun v=>⟨[(5,(V.ptr 0 0 0))],[.rows 1 [(V.ptr 1 0 0)],.rows 4 [(V.agg [(V.sl (List.map zH l)),(ovl 2 l10),(ovl 3 v.1),(ovl 4 v.2)])],obl 2 zA l10,obl 1 (fun l=>V.fmap (List.map (fun p=>zA p.1) l) (List.map (fun p=>zI p.2) l)) v.1,obl 1 V.i v.2],0,none,61⟩) ?_ ?_
 ·rintro ⟨l4,l5⟩ hM
  replace hM:Q8 l l10 l4 l5=some b_1:=hM
  unfold Q8 at hM
  refine au 4 ?_
  have hE:=Option.some.inj hM
  replace hE:=hr_1 _ hE.symm
  subst hE
  exact GS.ret ⟨_,rfl,FR.ptr rfl rfl (FR.agg (.cons ⟨30,rfl⟩ (.cons (FR.ovl (f:=zA) (l:=l10) 9 rfl rfl (fun _=>rfl)) (.cons (FR.ovl (f:=(fun l=>V.fmap (List.map (fun p=>zA p.1) l) (List.map (fun p=>zI p.2) l))) (l:=l4) 9 rfl rfl (fun _=>rfl)) (.cons (FR.ovl (f:=V.i) (l:=l5) 9 rfl rfl (fun _=>rfl)) .nil)))))⟩
 intro hj_4
 refine au 1 ?_
 refine X.gc [some 0,some 1,some 2,some 4,none,none] (X.loop (σ:=(Int×(List (List (zB×zC)))×(List Int))) (fun v=>⟨[(2,(V.ptr 0 0 0)),(5,(V.ptr 1 0 0)),(28,(V.sl (List.map zH l))),(29,(V.i (l.length:Int))),(30,(V.i v.1))],[.rows 6 [(zD h)],.rows 1 [(V.ptr 2 0 0)],.rows 4 [(V.agg [(V.sl (List.map zH l)),(ovl 3 l10),(ovl 4 v.2.1),(ovl 5 v.2.2)])],obl 2 zA l10,obl 1 (fun l=>V.fmap (List.map (fun p=>zA p.1) l) (List.map (fun p=>zI p.2) l)) v.2.1,obl 1 V.i v.2.2],0,none,61⟩) hM ?_ rfl) rfl rfl rfl (ga rfl rfl) (gb9 rfl rfl rfl (gb9 rfl rfl rfl (jI rfl rfl (J7 (.cons ⟨9,rfl⟩ (.cons (ze rfl) (.cons ⟨9,rfl⟩ (.cons ⟨9,rfl⟩ .nil))))) (Ze 9 rfl rfl (fun _=>rfl) (gb_pad' rfl (gb_pad' rfl ZA))))))
 rintro ⟨x3,l8,l9⟩ b_2 hM hc_5 hr_2
 rw [zAy] at hM
 refine au 3 ?_
 refine GS.seq ?_
 refine X.cm hM (fun h_6 hM=>?_) (fun h_6 hM=>?_)
 ·obtain ⟨x2,h_7,hM⟩:=zF hM
  refine au 6 ?_
  refine X.opW (H':=[.rows 6 [(zD h)],.rows 1 [(V.ptr 2 0 0)],.rows 4 [(V.agg [(V.sl (List.map zH l)),(ovl 3 l10),(ovl 4 l8),(ovl 5 l9)])],obl 2 zA l10,obl 1 (fun l=>V.fmap (List.map (fun p=>zA p.1) l) (List.map (fun p=>zI p.2) l)) l8,obl 1 V.i l9,.rows 5 [(V.agg [(V.i 0),(V.i 0),(V.i 0),(V.i 0),(V.i 0)])]]) rfl rfl rfl rfl ?_
  refine X.op0W (H':=[.rows 6 [(zD h)],.rows 1 [(V.ptr 2 0 0)],.rows 4 [(V.agg [(V.sl (List.map zH l)),(ovl 3 l10),(ovl 4 l8),(ovl 5 l9)])],obl 2 zA l10,obl 1 (fun l=>V.fmap (List.map (fun p=>zA p.1) l) (List.map (fun p=>zI p.2) l)) l8,obl 1 V.i l9,.rows 5 [(zH x2)]]) rfl rfl rfl ?_
  obtain ⟨y,h_8,hM⟩:=zF hM
  refine au 4 ?_
  refine X.ca (zHr h_8) ?_
  obtain ⟨l6,h_9,hM⟩:=zF hM
  obtain ⟨l7,h_10,hM⟩:=zF hM
  refine au 6 ?_
  refine X.draw (by kernel_rfl) ?_
  refine au 8 ?_
  refine X.zIV (f:=(fun l=>V.fmap (List.map (fun p=>zA p.1) l) (List.map (fun p=>zI p.2) l))) h_9 (fun _=>rfl) (by rfl) (by rfl) (by rfl) (by rfl) (by rfl) (by rfl) (by rfl) (by rfl) (by rfl) (by rfl) (by rfl) (by exact rfl) (by rfl) (by rfl) (by kernel_rfl) (by rfl) (by rfl) ?_
  refine au 5 ?_
  refine X.zIV (f:=V.i) h_10 (fun _=>rfl) (by rfl) (by rfl) (by rfl) (by rfl) (by rfl) (by rfl) (by rfl) (by rfl) (by rfl) (by rfl) (by rfl) (by exact rfl) (by rfl) (by rfl) (by kernel_rfl) (by rfl) (by rfl) ?_
  refine au 2 ?_
  refine X.dop0 rfl rfl rfl rfl (by kernel_rfl) rfl ?_
  refine au 2 ?_
  refine X.dop0 rfl rfl rfl rfl (by kernel_rfl) rfl ?_
  refine au 1 ?_
  refine X.norm [(2,(V.ptr 0 0 0)),(5,(V.ptr 1 0 0)),(28,(V.sl (List.map zH l))),(29,(V.i (l.length:Int))),(30,(V.i x3))] ?_ rfl (sr rfl)
  refine au 5 ?_
  have hE:=Option.some.inj hM
  exact X.gc [some 0,some 1,some 2,some 3,some 8,some 10] (hc_5 (w64 (x3+1),l6,l7) hE.symm) rfl rfl rfl (ga rfl rfl) (gb9 rfl rfl rfl (gb9 rfl rfl rfl (jI rfl rfl (J7 (.cons ⟨9,rfl⟩ (.cons (ze rfl) (.cons (zAa (Z6 h_9) rfl) (.cons (zAa (Z6 h_10) rfl) .nil))))) (Ze 9 rfl rfl (fun _=>rfl) (gb_obl' 9 (Z6 h_9) rfl rfl (fun _=>rfl) (gb_obl' 9 (Z6 h_10) rfl rfl (fun _=>rfl) ZA))))))
 obtain ⟨y_2,hM,hy⟩:=zz hM
 rw [hr_2 _ hy.symm] at hM
 refine au 1 ?_
 exact X.gc [some 1,some 2,some 3,some 4,some 5] (hj_4 (l8,l9) hM) rfl rfl rfl (ga rfl rfl) (gb9 rfl rfl rfl (jI rfl rfl (J7 (.cons ⟨9,rfl⟩ (.cons (ze rfl) (.cons (ze rfl) (.cons (ze rfl) .nil))))) (Ze 9 rfl rfl (fun _=>rfl) (Ze 9 rfl rfl (fun _=>rfl) (Ze 9 rfl rfl (fun _=>rfl) ZA)))))
set_option maxHeartbeats 4000000 in
theorem zKm {b:zL} {ship:Int} {r:(List Int)} (hM:jd b ship=some r):Ct Tryz.prog 54 [(V.fptr [(zN b)] 0 0),(V.i ship)] (V.sl (List.map V.i r)):=by
 refine zP zl rfl ?_
 unfold jd at hM
 obtain ⟨l,h_1,hM⟩:=zF hM
 refine au 3 ?_
 refine GS.seq ?_
 refine X.draw (by kernel_rfl) ?_
 refine au 11 ?_
 refine X.dop rfl (X.zFY (f:=V.i) h_1 rfl rfl rfl rfl rfl rfl rfl rfl) rfl rfl (by kernel_rfl) rfl rfl ?_
 refine au 2 ?_
 refine X.norm [(0,(V.fptr [(zN b)] 0 0)),(1,(V.i ship)),(5,(V.osl 0 0 (List.length l)))] ?_ rfl (sr rfl)
 refine au 3 ?_
 refine X.opR rfl (X.lenO (l:=l) rfl rfl rfl) rfl ?_
 refine au 2 ?_
 refine X.join (τ:=(List Int)) (fun v=>Zm b ship v=some r) (fun v=>⟨[(0,(V.fptr [(zN b)] 0 0)),(1,(V.i ship)),(5,(V.osl 0 0 (List.length v)))],[.rows 1 (List.map V.i v)],0,none,81⟩) ?_ ?_
 ·intro l1 hM
  replace hM:Zm b ship l1=some r:=hM
  unfold Zm at hM
  refine au 9 ?_
  refine X.join (τ:=(List Int)) (fun v=>Za b ship v=some r) (fun v=>⟨[(0,(V.fptr [(zN b)] 0 0)),(1,(V.i ship)),(5,(V.osl 0 0 (List.length v)))],[.rows 1 (List.map V.i v)],0,none,81⟩) ?_ ?_
  ·intro l2 hM
   replace hM:Za b ship l2=some r:=hM
   unfold Za at hM
   obtain ⟨x,h_2,hM⟩:=zF hM
   refine au 9 ?_
   refine X.opR rfl (X.Zy h_2 rfl rfl rfl rfl rfl) rfl ?_
   refine X.op0W rfl (X.YN (b:=0) h_2 rfl rfl rfl rfl rfl rfl rfl) rfl ?_
   refine au 5 ?_
   have hE:=Option.some.inj hM
   subst hE
   exact GS.ret ⟨_,rfl,FR.eq X.jk (FR.osl (f:=V.i) (l:=(put l2 (w64 ((b.slots.length:Int)+ship)) 0)) 9 rfl rfl (fun _=>rfl))⟩
  intro hj_2
  refine au 1 ?_
  refine X.gx [some 0] (X.loop (σ:=(Int×(List Int))) (fun v=>⟨[(0,(V.fptr [(zN b)] 0 0)),(1,(V.i ship)),(5,(V.osl 0 0 (List.length v.2))),(35,(V.sl (List.map zA b.slots))),(36,(V.i (b.slots.length:Int))),(37,(V.i v.1))],[.rows 1 (List.map V.i v.2)],0,none,81⟩) hM ?_ rfl)
  rintro ⟨x6,l4⟩ b_1 hM hc_3 hr_1
  rw [jX] at hM
  refine au 3 ?_
  refine GS.seq ?_
  refine X.cm hM (fun h_3 hM=>?_) (fun h_3 hM=>?_)
  ·refine GS.skip (GS.seq ?_)
   refine X.join (τ:=(List Int)) (fun v=>ZU x6 v=some b_1) (fun v=>⟨[(0,(V.fptr [(zN b)] 0 0)),(1,(V.i ship)),(5,(V.osl 0 0 (List.length v))),(35,(V.sl (List.map zA b.slots))),(36,(V.i (b.slots.length:Int))),(37,(V.i x6))],[.rows 1 (List.map V.i v)],0,none,81⟩) ?_ ?_
   ·intro l3 hM
    replace hM:ZU x6 l3=some b_1:=hM
    unfold ZU at hM
    refine au 4 ?_
    have hE:=Option.some.inj hM
    exact X.gx [some 0] (hc_3 (w64 (x6+1),l3) hE.symm)
   intro hj_4
   obtain ⟨x1,h_4,hM⟩:=zF hM
   refine au 7 ?_
   refine X.op0W rfl rfl rfl ?_
   obtain ⟨x2,h_5,hM⟩:=zF hM
   refine GS.zV (GS.seq ?_)
   refine X.draw (by kernel_rfl) ?_
   refine au 5 ?_
   refine X.dop rfl (X.Zh (f:=(fun l=>V.fmap (List.map (fun p=>zA p.1) l) (List.map (fun p=>zI p.2) l))) h_5 (fun _=>rfl) rfl rfl rfl rfl) rfl rfl (by kernel_rfl) rfl rfl ?_
   refine au 2 ?_
   refine X.dop rfl (X.zIA (f:=zA) (g:=zI) (k:=x1) (l:=x2) (z:=(⟨0,0⟩:zC)) (ok:=true) Qf rfl rfl rfl rfl rfl) rfl rfl (by kernel_rfl) rfl rfl ?_
   refine au 4 ?_
   refine X.dop0 rfl rfl rfl rfl (by kernel_rfl) rfl ?_
   refine au 2 ?_
   refine X.norm [(0,(V.fptr [(zN b)] 0 0)),(1,(V.i ship)),(5,(V.osl 0 0 (List.length l4))),(7,(V.i x6)),(10,(V.b ((ZE x1 x2).isSome))),(35,(V.sl (List.map zA b.slots))),(36,(V.i (b.slots.length:Int))),(37,(V.i x6))] ?_ rfl (sr rfl)
   refine au 3 ?_
   refine X.cm hM (fun h_6 hM=>?_) (fun h_6 hM=>?_)
   ·obtain ⟨x3,h_7,hM⟩:=zF hM
    refine au 3 ?_
    refine X.opR rfl (X.Zy h_7 rfl rfl rfl rfl rfl) rfl ?_
    refine X.op0W rfl (X.YN (b:=(-1000)) h_7 rfl rfl rfl rfl rfl rfl rfl) rfl ?_
    obtain ⟨x4,h_8,hM⟩:=zF hM
    refine au 12 ?_
    refine X.cm hM (fun h_9 hM=>?_) (fun h_9 hM=>?_)
    ·obtain ⟨x5,h_10,hM⟩:=zF hM
     refine au 3 ?_
     refine X.opR rfl (X.Zy h_10 rfl rfl (X.zOP rfl X.jk) rfl rfl) rfl ?_
     refine X.op0W rfl (X.YN (b:=(-1001)) h_10 rfl rfl rfl rfl rfl rfl rfl) rfl ?_
     refine au 2 ?_
     exact X.gy [some 0] (hj_4 (put (put l4 x6 (-1000)) x6 (-1001)) hM) (zM rfl ⟨9,rfl⟩ (zM rfl ⟨9,rfl⟩ (zM rfl (qp (Eq.trans X.jk X.jk) ⟨9,rfl⟩) (ga rfl rfl))))
    refine au 2 ?_
    exact X.gy [some 0] (hj_4 (put l4 x6 (-1000)) hM) (zM rfl ⟨9,rfl⟩ (zM rfl ⟨9,rfl⟩ (zM rfl (qp X.jk ⟨9,rfl⟩) (ga rfl rfl))))
   refine au 2 ?_
   exact X.gx [some 0] (hj_4 l4 hM)
  obtain ⟨y_1,hM,hy⟩:=zz hM
  rw [hr_1 _ hy.symm] at hM
  refine au 1 ?_
  exact X.gx [some 0] (hj_2 l4 hM)
 intro hj_1
 refine au 1 ?_
 refine X.gx [some 0] (X.loop (σ:=(Int×(List Int))) (fun v=>⟨[(0,(V.fptr [(zN b)] 0 0)),(1,(V.i ship)),(5,(V.osl 0 0 (List.length v.2))),(24,(V.i (l.length:Int))),(25,(V.i v.1))],[.rows 1 (List.map V.i v.2)],0,none,81⟩) hM ?_ rfl)
 rintro ⟨x8,l5⟩ b_1 hM hc_5 hr_1
 rw [jW] at hM
 refine au 3 ?_
 refine GS.seq ?_
 refine X.cm hM (fun h_11 hM=>?_) (fun h_11 hM=>?_)
 ·obtain ⟨x7,h_12,hM⟩:=zF hM
  refine au 10 ?_
  refine X.opR rfl (X.Zy h_12 rfl rfl rfl rfl rfl) rfl ?_
  refine X.op0W rfl (X.YN (b:=1073741824) h_12 rfl rfl rfl rfl rfl rfl rfl) rfl ?_
  refine au 6 ?_
  have hE:=Option.some.inj hM
  exact X.gy [some 0] (hc_5 (w64 (x8+1),(put l5 x8 1073741824)) hE.symm) (zM rfl ⟨9,rfl⟩ (zM rfl ⟨9,rfl⟩ (zM rfl (qp X.jk ⟨9,rfl⟩) (ga rfl rfl))))
 obtain ⟨y_1,hM,hy⟩:=zz hM
 rw [hr_1 _ hy.symm] at hM
 refine au 1 ?_
 exact X.gx [some 0] (hj_1 l5 hM)
set_option maxHeartbeats 4000000 in
theorem zDY {b:zL} {ship:Int} {r:(List Int)} (hM:jd b ship=some r):zF1 Tryz.prog 54 [(V.fptr [(zN b)] 0 0),(V.i ship)] (fun z=>(ovlz z 0 r)) (fun z=>(oblz z 1 V.i r)):=by
 refine zJI zl rfl ?_
 unfold jd at hM
 obtain ⟨l,h_1,hM⟩:=zF hM
 refine au 3 ?_
 refine GS.seq ?_
 refine X.draw (by kernel_rfl) ?_
 refine au 11 ?_
 refine X.dop rfl (X.zFY (f:=V.i) h_1 rfl rfl rfl rfl rfl rfl rfl rfl) rfl rfl (by kernel_rfl) rfl rfl ?_
 refine au 2 ?_
 refine X.norm [(0,(V.fptr [(zN b)] 0 0)),(1,(V.i ship)),(5,(V.osl 0 0 (List.length l)))] ?_ rfl (sr rfl)
 refine au 3 ?_
 refine X.opR rfl (X.lenO (l:=l) rfl rfl rfl) rfl ?_
 refine au 2 ?_
 refine X.join (τ:=(List Int)) (fun v=>Zm b ship v=some r) (fun v=>⟨[(0,(V.fptr [(zN b)] 0 0)),(1,(V.i ship)),(5,(V.osl 0 0 (List.length v)))],[.rows 1 (List.map V.i v)],0,none,81⟩) ?_ ?_
 ·intro l1 hM
  replace hM:Zm b ship l1=some r:=hM
  unfold Zm at hM
  refine au 9 ?_
  refine X.join (τ:=(List Int)) (fun v=>Za b ship v=some r) (fun v=>⟨[(0,(V.fptr [(zN b)] 0 0)),(1,(V.i ship)),(5,(V.osl 0 0 (List.length v)))],[.rows 1 (List.map V.i v)],0,none,81⟩) ?_ ?_
  ·intro l2 hM
   replace hM:Za b ship l2=some r:=hM
   unfold Za at hM
   obtain ⟨x,h_2,hM⟩:=zF hM
   refine au 9 ?_
   refine X.opR rfl (X.Zy h_2 rfl rfl rfl rfl rfl) rfl ?_
   refine X.op0W rfl (X.YN (b:=0) h_2 rfl rfl rfl rfl rfl rfl rfl) rfl ?_
   refine au 5 ?_
   have hE:=Option.some.inj hM
   subst hE
   refine X.gc [some 0] (H':=[.rows 1 (List.map V.i (put l2 (w64 ((b.slots.length:Int)+ship)) 0))]) (K':=[(4,(V.osl 0 0 (List.length (put l2 (w64 ((b.slots.length:Int)+ship)) 0))))]) ?_ rfl rfl rfl (zM rfl (qp X.jk ⟨9,rfl⟩) zD8) (zG8 9 rfl rfl (fun _=>rfl) ZA)
   exact GS.ret ⟨false,rfl,rfl⟩
  intro hj_2
  refine au 1 ?_
  refine X.gx [some 0] (X.loop (σ:=(Int×(List Int))) (fun v=>⟨[(0,(V.fptr [(zN b)] 0 0)),(1,(V.i ship)),(5,(V.osl 0 0 (List.length v.2))),(35,(V.sl (List.map zA b.slots))),(36,(V.i (b.slots.length:Int))),(37,(V.i v.1))],[.rows 1 (List.map V.i v.2)],0,none,81⟩) hM ?_ rfl)
  rintro ⟨x6,l4⟩ b_1 hM hc_3 hr_1
  rw [jX] at hM
  refine au 3 ?_
  refine GS.seq ?_
  refine X.cm hM (fun h_3 hM=>?_) (fun h_3 hM=>?_)
  ·refine GS.skip (GS.seq ?_)
   refine X.join (τ:=(List Int)) (fun v=>ZU x6 v=some b_1) (fun v=>⟨[(0,(V.fptr [(zN b)] 0 0)),(1,(V.i ship)),(5,(V.osl 0 0 (List.length v))),(35,(V.sl (List.map zA b.slots))),(36,(V.i (b.slots.length:Int))),(37,(V.i x6))],[.rows 1 (List.map V.i v)],0,none,81⟩) ?_ ?_
   ·intro l3 hM
    replace hM:ZU x6 l3=some b_1:=hM
    unfold ZU at hM
    refine au 4 ?_
    have hE:=Option.some.inj hM
    exact X.gx [some 0] (hc_3 (w64 (x6+1),l3) hE.symm)
   intro hj_4
   obtain ⟨x1,h_4,hM⟩:=zF hM
   refine au 7 ?_
   refine X.op0W rfl rfl rfl ?_
   obtain ⟨x2,h_5,hM⟩:=zF hM
   refine GS.zV (GS.seq ?_)
   refine X.draw (by kernel_rfl) ?_
   refine au 5 ?_
   refine X.dop rfl (X.Zh (f:=(fun l=>V.fmap (List.map (fun p=>zA p.1) l) (List.map (fun p=>zI p.2) l))) h_5 (fun _=>rfl) rfl rfl rfl rfl) rfl rfl (by kernel_rfl) rfl rfl ?_
   refine au 2 ?_
   refine X.dop rfl (X.zIA (f:=zA) (g:=zI) (k:=x1) (l:=x2) (z:=(⟨0,0⟩:zC)) (ok:=true) Qf rfl rfl rfl rfl rfl) rfl rfl (by kernel_rfl) rfl rfl ?_
   refine au 4 ?_
   refine X.dop0 rfl rfl rfl rfl (by kernel_rfl) rfl ?_
   refine au 2 ?_
   refine X.norm [(0,(V.fptr [(zN b)] 0 0)),(1,(V.i ship)),(5,(V.osl 0 0 (List.length l4))),(7,(V.i x6)),(10,(V.b ((ZE x1 x2).isSome))),(35,(V.sl (List.map zA b.slots))),(36,(V.i (b.slots.length:Int))),(37,(V.i x6))] ?_ rfl (sr rfl)
   refine au 3 ?_
   refine X.cm hM (fun h_6 hM=>?_) (fun h_6 hM=>?_)
   ·obtain ⟨x3,h_7,hM⟩:=zF hM
    refine au 3 ?_
    refine X.opR rfl (X.Zy h_7 rfl rfl rfl rfl rfl) rfl ?_
    refine X.op0W rfl (X.YN (b:=(-1000)) h_7 rfl rfl rfl rfl rfl rfl rfl) rfl ?_
    obtain ⟨x4,h_8,hM⟩:=zF hM
    refine au 12 ?_
    refine X.cm hM (fun h_9 hM=>?_) (fun h_9 hM=>?_)
    ·obtain ⟨x5,h_10,hM⟩:=zF hM
     refine au 3 ?_
     refine X.opR rfl (X.Zy h_10 rfl rfl (X.zOP rfl X.jk) rfl rfl) rfl ?_
     refine X.op0W rfl (X.YN (b:=(-1001)) h_10 rfl rfl rfl rfl rfl rfl rfl) rfl ?_
     refine au 2 ?_
     exact X.gy [some 0] (hj_4 (put (put l4 x6 (-1000)) x6 (-1001)) hM) (zM rfl ⟨9,rfl⟩ (zM rfl ⟨9,rfl⟩ (zM rfl (qp (Eq.trans X.jk X.jk) ⟨9,rfl⟩) (ga rfl rfl))))
    refine au 2 ?_
    exact X.gy [some 0] (hj_4 (put l4 x6 (-1000)) hM) (zM rfl ⟨9,rfl⟩ (zM rfl ⟨9,rfl⟩ (zM rfl (qp X.jk ⟨9,rfl⟩) (ga rfl rfl))))
   refine au 2 ?_
   exact X.gx [some 0] (hj_4 l4 hM)
  obtain ⟨y_1,hM,hy⟩:=zz hM
  rw [hr_1 _ hy.symm] at hM
  refine au 1 ?_
  exact X.gx [some 0] (hj_2 l4 hM)
 intro hj_1
 refine au 1 ?_
 refine X.gx [some 0] (X.loop (σ:=(Int×(List Int))) (fun v=>⟨[(0,(V.fptr [(zN b)] 0 0)),(1,(V.i ship)),(5,(V.osl 0 0 (List.length v.2))),(24,(V.i (l.length:Int))),(25,(V.i v.1))],[.rows 1 (List.map V.i v.2)],0,none,81⟩) hM ?_ rfl)
 rintro ⟨x8,l5⟩ b_1 hM hc_5 hr_1
 rw [jW] at hM
 refine au 3 ?_
 refine GS.seq ?_
 refine X.cm hM (fun h_11 hM=>?_) (fun h_11 hM=>?_)
 ·obtain ⟨x7,h_12,hM⟩:=zF hM
  refine au 10 ?_
  refine X.opR rfl (X.Zy h_12 rfl rfl rfl rfl rfl) rfl ?_
  refine X.op0W rfl (X.YN (b:=1073741824) h_12 rfl rfl rfl rfl rfl rfl rfl) rfl ?_
  refine au 6 ?_
  have hE:=Option.some.inj hM
  exact X.gy [some 0] (hc_5 (w64 (x8+1),(put l5 x8 1073741824)) hE.symm) (zM rfl ⟨9,rfl⟩ (zM rfl ⟨9,rfl⟩ (zM rfl (qp X.jk ⟨9,rfl⟩) (ga rfl rfl))))
 obtain ⟨y_1,hM,hy⟩:=zz hM
 rw [hr_1 _ hy.symm] at hM
 refine au 1 ?_
 exact X.gx [some 0] (hj_1 l5 hM)
end Go.Proofs.YtmebbbblomlgdaaGreat
